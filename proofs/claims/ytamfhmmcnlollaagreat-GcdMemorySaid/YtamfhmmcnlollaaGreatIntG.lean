/-
  The document's tools of arithmetic (surdref05): Zero, Bits. Integers: sign and size. What a call gives that answers an integer in its own form. The document's tools (surdref05): Cmp, Minus, I, Z, Neg, Add, Sub, Mul, Exact, SameInt. The document's divisors (surdref05): Gcd, All, Lcm, AllLcm, Coprime; gcd.AllLcm. The n-th root, rounded down, in plain Lean. Walks: gcd.two, power, Root, Sqrt. A law for regions that draw their order and store at their end: what is stored may be memory that was loaded before: each store waits for all that is taken first. No program here. The helpers of the laws of layer 5 (surdlaw05): copied, copies, few, less, inForm, fixed. surdlaw05.fixed. Walks: gcd.Inverse, gcd.Count. How often a number divides another. The document's roots and counts (surdref05): Two, below, Pow, Root, Sqrt, Count. Boxes that float: a new variable's memory in a region that draws its order; stores into it at the region's end. Stores leave other kinds of memory alone. No program here. The document's integers (surdref05): Neg, Sub, Exact, mod. The document's some (surdref05): a factor of a that gives the gcd modulo b. The document's Extended and Inverse (surdref05).
-/
import Derived.Test.YtamfhmmcnlollaaGreatRef5X
import Derived.Test.YtamfhmmcnlollaaGreatDigQ
import Derived.Test.YtamfhmmcnlollaaGreatGcd
import Derived.Test.YtamfhmmcnlollaaGreatGcdD
import Derived.Test.YtamfhmmcnlollaaGreatPowX
import Derived.Test.YtamfhmmcnlollaaGreatNatB
import Derived.Test.YtamfhmmcnlollaaGreatOrd
import Derived.Test.YtamfhmmcnlollaaGreatRows2
namespace Go.Proofs.YtamfhmmcnlollaaGreat
open Go.RowKit
set_option linter.unusedVariables false

set_option maxHeartbeats 400000 in
theorem zero5_any {v : Value} {x L : Nat} {w : World} (h : Num w v x L) (hL : L ≤ 17179869184) : Calls Tryz.prog 89 #[v] w (Keeps (.bool (decide (x = 0))) w) := by
  have C := Lib.hid (digits5_any h (by omega))
  obtain ⟨_, _, _, _, rfl, _⟩ := id h
  clear h
  go_enter Tryz.func89, Tryz.ntmps89
  go_wp2_with fail
  refine C.out.mono ?_
  rintro e w1 ⟨A, n, c, rfl, ho, hb⟩
  have HB := Lib.hid hb
  have hq : ((n : Int) == 0) = decide (x = 0) := by
    have e1 : n = 0 ↔ x = 0 := by rw [← dg_nil_iff D_gt (x := x), ← List.length_eq_zero_iff, ho.len]
    by_cases h0 : x = 0
    · rw [decide_eq_true h0, beq_iff_eq]; have := e1.2 h0; omega
    · rw [decide_eq_false h0, beq_eq_false_iff_ne]
      intro h1
      exact h0 (e1.1 (by omega))
  generalize decide (x = 0) = bb at *
  clear ho hb
  go_wp2
  go_ret
  exact ⟨rfl, HB.out⟩
set_option maxHeartbeats 400000 in
theorem bits5_any {v : Value} {x L : Nat} {w : World} (h : Num w v x L) (hL : L ≤ 1073741824) : Calls Tryz.prog 100 #[v] w (Keeps (.int .i64 ((nb x : Nat) : Int)) w) := by
  obtain ⟨A, n, c, xs, rfl, h1, h2, rfl, h4⟩ := h
  have C := Lib.hid (rbits1_any h1 h2 (by omega))
  clear h1 h2
  go_enter Tryz.func100, Tryz.ntmps100
  go_wp2_with fail
  refine C.out.mono ?_
  rintro e w1 ⟨rfl, hb⟩
  go_wp2
  go_ret
  exact ⟨rfl, hb⟩
end Go.Proofs.YtamfhmmcnlollaaGreat
namespace Go.Proofs.YtamfhmmcnlollaaGreat
open Go.RowKit
set_option linter.unusedVariables false

/-- the integer of a sign and a size -/
def sg (s : Bool) (x : Nat) : Int := if s = true then -(x : Int) else (x : Int)
theorem sg_false (x : Nat) : sg false x = (x : Int) := rfl
theorem sg_true (x : Nat) : sg true x = -(x : Int) := rfl
theorem sg_of {s : Bool} {z : Int} (h : s = decide (z < 0)) : sg s z.natAbs = z := by
  subst h
  unfold sg
  split
  · rename_i h; have : z < 0 := by simpa using h
    omega
  · rename_i h; have : ¬ z < 0 := by simpa using h
    omega
theorem sg_abs (s : Bool) (x : Nat) : (sg s x).natAbs = x := by unfold sg; split <;> simp
theorem sg_neg (s : Bool) (x : Nat) : decide (sg s x < 0) = (s && decide (0 < x)) := by
  unfold sg
  cases s
  · simp
  · simp
theorem sg_not (s : Bool) (x : Nat) : sg (!s) x = -sg s x := by unfold sg; cases s <;> simp
/-- a new integer in its own form -/
def GI (w : World) (z : Int) (L : Nat) (e : Ending) (w' : World) : Prop :=
  ∃ A n c s, e = .returned (.agg #[.bool s, .slice A n c]) ∧ Hid (s = decide (z < 0)) ∧ Own .u64 41 w.heap.size w' A n c (dg W z.natAbs) ∧ Below w.heap.size w w' ∧ n ≤ L
theorem GI.eq {w w' : World} {z z' : Int} {L : Nat} {e : Ending} (h : GI w z L e w') (hz : z = z') : GI w z' L e w' := hz ▸ h
theorem GI.mono {w w' : World} {z : Int} {L L' : Nat} {e : Ending} (h : GI w z L e w') (hL : L ≤ L') : GI w z L' e w' := by
  obtain ⟨A, n, c, s, h1, h2, h3, h4, h5⟩ := h
  exact ⟨A, n, c, s, h1, h2, h3, h4, by omega⟩
theorem Own.cells2 {k : IntKind} {t : TypeId} {B n c b : Nat} {w : World} {A : Option Addr} {xs : List Nat} {u1 u2 : Value} (h : Own k t B w A n c xs) (hp : b < B) : Own k t B ((w.setCell ⟨b, 0, none⟩ u1).setCell ⟨b, 1, none⟩ u2) A n c xs :=
  (h.set_low (p := ⟨b, 0, none⟩) hp u1).set_low (p := ⟨b, 1, none⟩) hp u2
theorem below_cells2 {B b : Nat} {w w' : World} {u1 u2 : Value} (h : Below B w w') (hb : B ≤ b) : Below B w ((w'.setCell ⟨b, 0, none⟩ u1).setCell ⟨b, 1, none⟩ u2) :=
  (h.setCell (p := ⟨b, 0, none⟩) hb u1).setCell (p := ⟨b, 1, none⟩) hb u2
theorem At.growS {w : World} {p : Addr} {v : Value} {b : Nat} (h : At w p v) (hne : p.block ≠ b) : ∀ w', Grow (some b) w.drew w' → w'.cell? p = some v := fun w' g => g.cell (p := p) (v := v) h.1 (by simpa using hne)
/-- the end of a walk that answers one integer -/
theorem gi_fin {w wb w' : World} {z : Int} {L b n c : Nat} {s : Bool} {A : Option Addr} {u1 u2 : Value} (hs : s = decide (z < 0)) (ho : Own .u64 41 wb.heap.size w' A n c (dg W z.natAbs)) (hb : Below w.heap.size w w') (hwb : w.heap.size ≤ b ∧ b < wb.heap.size) (hl : n ≤ L) :
    GI w z L (.returned (.agg #[.bool s, .slice A n c])) ((w'.setCell ⟨b, 0, none⟩ u1).setCell ⟨b, 1, none⟩ u2) :=
  ⟨A, n, c, s, rfl, hs, (ho.cells2 hwb.2).mono (by omega), below_cells2 hb hwb.1, hl⟩

theorem At.boxc {i : Nat} {v : Value} {t : TypeId} {b : Nat} (w : World) (vs : Array Value) (h : vs[i]? = some v) (hb : b = w.heap.size) : At (w.alloc (.cells vs t)) ⟨b, i, none⟩ v := by
  subst hb; exact At.box w vs h
theorem same5q_any {A A2 : Option Addr} {n c m c2 : Nat} {xs ys : List Nat} {w : World} (h : Rd .u64 w A n c xs) (h' : Rd .u64 w A2 m c2 ys) (hn : n ≤ 1099511627776) :
    Calls Tryz.prog 14 #[.slice A n c, .slice A2 m c2] w (Quiet (.bool (decide (xs = ys))) w) := by
  have C := Lib.hid (same1_any h h' hn)
  clear h h'
  generalize decide (xs = ys) = bb at *
  go_enter Tryz.func14, Tryz.ntmps14
  go_wp2_with fail
  refine C.out.mono ?_
  rintro e w1 ⟨rfl, hb⟩
  go_wp2
  go_ret
  exact ⟨rfl, hb⟩
theorem same5k_any {A A2 : Option Addr} {n c m c2 : Nat} {xs ys : List Nat} {w : World} (h : Rd .u64 w A n c xs) (h' : Rd .u64 w A2 m c2 ys) (e : xs = ys) (hn : n ≤ 1099511627776) :
    Calls Tryz.prog 14 #[.slice A n c, .slice A2 m c2] w (Keeps (.bool true) w) :=
  (same5q_any h h' hn).mono fun _ _ ⟨he, q, hq⟩ => ⟨by rw [he, e]; simp, by rw [hq]; exact below_drewN _ _⟩

set_option maxHeartbeats 400000 in
theorem cmp5_any {v u : Value} {x y L M : Nat} {w : World} (h : Num w v x L) (h' : Num w u y M) (hL : L ≤ 17179869184) (hM : M ≤ 17179869184) : Calls Tryz.prog 101 #[v, u] w (Keeps (.int .i64 (cmpN x y)) w) := by
  have H := Lib.hid h
  have H' := Lib.hid h'
  have HX := Lib.hid h.lt
  have HY := Lib.hid h'.lt
  obtain ⟨_, _, _, _, rfl, _⟩ := id h
  obtain ⟨_, _, _, _, rfl, _⟩ := id h'
  clear h h'
  go_enter Tryz.func101, Tryz.ntmps101
  go_wp2_with fail
  refine (digits5_any H.out (by omega)).mono ?_
  rintro e w1 ⟨A_da, n_da, c_da, rfl, o_da, hb1⟩
  go_wp2_with fail
  refine (digits5_any (H'.out.below hb1) (by omega)).mono ?_
  rintro e w2 ⟨A_db, n_db, c_db, rfl, o_db, hb2⟩
  go_wp2_with fail
  refine (compare1_any ((o_da.below hb2).digs HX.out) ((o_db.mono hb1.size).digs HY.out) (by omega) (by omega)).mono ?_
  rintro e w' ⟨rfl, rfl⟩
  go_wp2
  go_ret
  exact ⟨rfl, (bt hb1 hb2)⟩
set_option maxHeartbeats 1000000 in
theorem minus5_any {v u : Value} {x y L M : Nat} {w : World} (h : Num w v x L) (h' : Num w u y M) (hle : y ≤ x) (hL1 : 1 ≤ L) (hL : L ≤ 17179869184) (hM : M ≤ 17179869184) :
    Calls Tryz.prog 97 #[v, u] w (GN w (x - y) L) := by
  have H := Lib.hid h
  have H' := Lib.hid h'
  have HLE := Lib.hid hle
  have C := Lib.hid (ones63_any h h' (by omega) (by omega))
  have HX := Lib.hid h.lt
  have HY := Lib.hid h'.lt
  obtain ⟨_, _, _, _, rfl, _⟩ := id h
  obtain ⟨_, _, _, _, rfl, _⟩ := id h'
  clear h h' hle
  go_enter Tryz.func97, Tryz.ntmps97
  go_wp2_with fail
  refine C.out.mono ?_
  rintro e wo ⟨p, q, t, rfl, ht, hbo⟩
  rcases t with _ | _
  · clear ht
    go_wp2_with fail
    refine (digits5_any (H.out.below hbo) (by omega)).mono ?_
    rintro e w1 ⟨A_da, n_da, c_da, rfl, o_da, hb1⟩
    go_wp2_with fail
    refine (digits5_any ((H'.out.below hbo).below hb1) (by omega)).mono ?_
    rintro e w2 ⟨A_db, n_db, c_db, rfl, o_db, hb2⟩
    have HDA := Lib.hid (((o_da.mono hbo.size).below hb2).digs HX.out)
    have HDB := Lib.hid ((o_db.mono (bt hbo hb1).size).digs HY.out)
    go_wp2_with fail
    refine (minus1_any HDA.out HDB.out (by omega) (by omega) HLE.out).mono ?_
    rintro e w3 ⟨A_s, n_s, c_s, xs_s, rfl, o_s, a_s, v_s, hb3, l_s⟩
    have V_s := Lib.hid v_s
    clear v_s
    go_wp2_with fail
    refine (number5_any (o_s.dig a_s V_s.out l_s) (by omega)).mono ?_
    rintro e w4 ⟨A_r, n_r, c_r, rfl, o_r, hb4, l_r⟩
    have HR : Hid (Own .u64 41 w.heap.size w4 A_r n_r c_r (dg W (x - y)) ∧ Below w.heap.size w w4 ∧ n_r ≤ L) := ⟨(o_r.mono (bt (bt (bt hbo hb1) hb2) hb3).size), (bt (bt (bt (bt hbo hb1) hb2) hb3) hb4), by omega⟩
    go_wp2
    go_ret
    exact ⟨_, _, _, rfl, HR.out⟩
  · obtain ⟨rfl, rfl, hx, hy⟩ := ht rfl
    have hle := HLE.out
    clear ht
    go_wp2_with fail
    refine (of5_any (x := p - q) (by first | omega | (rw [IntKind.wrap_u64]; omega)) (by rw [W_eq]; omega)).mono ?_
    rintro e w5 ⟨A_r, n_r, c_r, rfl, o_r, hb5, l_r⟩
    have HR : Hid (Own .u64 41 w.heap.size w5 A_r n_r c_r (dg W (p - q)) ∧ Below w.heap.size w w5 ∧ n_r ≤ L) := ⟨(o_r.mono hbo.size), (bt hbo hb5), by omega⟩
    go_wp2
    go_ret
    exact ⟨_, _, _, rfl, HR.out⟩

set_option maxHeartbeats 400000 in
theorem I5_pos {v : Value} {x L : Nat} {w : World} (h : Num w v x L) (hx : True) (hL : L ≤ 17179869184) : Calls Tryz.prog 83 #[.bool false, v] w (GI w (sg false x) L) := by
  have H := Lib.hid h
  have HXX := Lib.hid hx
  obtain ⟨_, _, _, _, rfl, _⟩ := id h
  clear h hx
  go_enter Tryz.func83, Tryz.ntmps83
  go_wp2_with fail
  refine (norm5_any (H.out.below ((Below.refl _ _).alloc (Nat.le_refl _) (.cells #[.bool false, .slice none 0 0] 60))) (by omega)).mono ?_
  rintro e w1 ⟨A_r, n_r, c_r, rfl, o_r, hb1, l_r⟩
  skip
  have hr := o_r
  rw [← sg_abs false x] at hr
  have HR := Lib.hid hr
  clear hr
  have HB := Lib.hid (bt ((Below.refl _ _).alloc (Nat.le_refl _) (.cells #[.bool false, .slice none 0 0] 60)) hb1)
  have c1 := ((Cel.box (i := 0) (v := .bool false) (t := 60) (b := w.heap.size) w #[.bool false, .slice none 0 0] rfl (by simp)).below hb1)
  have c2 := ((Cel.box (i := 1) (v := .slice none 0 0) (t := 60) (b := w.heap.size) w #[.bool false, .slice none 0 0] rfl (by simp)).below hb1)
  obtain ⟨c1a, c1b, c1c⟩ := c1
  obtain ⟨c2a, c2b, c2c⟩ := c2
  go_wp2
  refine bodyPost_ret (v := .agg #[.bool false, .slice A_r n_r c_r]) (by simp [results, Tryz.results83, go_sem, c1a, c2a]) rfl ?_
  exact gi_fin (by rw [sg_neg]; rfl) HR.out HB.out (by simp) (by omega)
set_option maxHeartbeats 400000 in
theorem I5_zero {v : Value} {x L : Nat} {w : World} (h : Num w v x L) (hx : x = 0) (hL : L ≤ 17179869184) : Calls Tryz.prog 83 #[.bool true, v] w (GI w (sg true x) L) := by
  have H := Lib.hid h
  have HXX := Lib.hid hx
  obtain ⟨_, _, _, _, rfl, _⟩ := id h
  clear h hx
  go_enter Tryz.func83, Tryz.ntmps83
  go_wp2_with fail
  refine (norm5_any (H.out.below ((Below.refl _ _).alloc (Nat.le_refl _) (.cells #[.bool false, .slice none 0 0] 60))) (by omega)).mono ?_
  rintro e w1 ⟨A_r, n_r, c_r, rfl, o_r, hb1, l_r⟩
  (obtain rfl := len_zero o_r HXX.out)
  have hr := o_r
  rw [← sg_abs true x] at hr
  have HR := Lib.hid hr
  clear hr
  have HB := Lib.hid (bt ((Below.refl _ _).alloc (Nat.le_refl _) (.cells #[.bool false, .slice none 0 0] 60)) hb1)
  have c1 := ((Cel.box (i := 0) (v := .bool false) (t := 60) (b := w.heap.size) w #[.bool false, .slice none 0 0] rfl (by simp)).below hb1)
  have c2 := ((Cel.box (i := 1) (v := .slice none 0 0) (t := 60) (b := w.heap.size) w #[.bool false, .slice none 0 0] rfl (by simp)).below hb1)
  obtain ⟨c1a, c1b, c1c⟩ := c1
  obtain ⟨c2a, c2b, c2c⟩ := c2
  go_wp2
  refine bodyPost_ret (v := .agg #[.bool false, .slice A_r 0 c_r]) (by simp [results, Tryz.results83, go_sem, c1a, c2a]) rfl ?_
  exact gi_fin (by rw [sg_neg]; (rw [HXX.out]; rfl)) HR.out HB.out (by simp) (by omega)
set_option maxHeartbeats 400000 in
theorem I5_neg {v : Value} {x L : Nat} {w : World} (h : Num w v x L) (hx : 0 < x) (hL : L ≤ 17179869184) : Calls Tryz.prog 83 #[.bool true, v] w (GI w (sg true x) L) := by
  have H := Lib.hid h
  have HXX := Lib.hid hx
  obtain ⟨_, _, _, _, rfl, _⟩ := id h
  clear h hx
  go_enter Tryz.func83, Tryz.ntmps83
  go_wp2_with fail
  refine (norm5_any (H.out.below ((Below.refl _ _).alloc (Nat.le_refl _) (.cells #[.bool false, .slice none 0 0] 60))) (by omega)).mono ?_
  rintro e w1 ⟨A_r, n_r, c_r, rfl, o_r, hb1, l_r⟩
  (have z1 := len_pos o_r HXX.out)
  have hr := o_r
  rw [← sg_abs true x] at hr
  have HR := Lib.hid hr
  clear hr
  have HB := Lib.hid (bt ((Below.refl _ _).alloc (Nat.le_refl _) (.cells #[.bool false, .slice none 0 0] 60)) hb1)
  have c1 := ((Cel.box (i := 0) (v := .bool false) (t := 60) (b := w.heap.size) w #[.bool false, .slice none 0 0] rfl (by simp)).below hb1)
  have c2 := ((Cel.box (i := 1) (v := .slice none 0 0) (t := 60) (b := w.heap.size) w #[.bool false, .slice none 0 0] rfl (by simp)).below hb1)
  obtain ⟨c1a, c1b, c1c⟩ := c1
  obtain ⟨c2a, c2b, c2c⟩ := c2
  go_wp2
  refine bodyPost_ret (v := .agg #[.bool true, .slice A_r n_r c_r]) (by simp [results, Tryz.results83, go_sem, c1a, c2a]) rfl ?_
  exact gi_fin (by rw [sg_neg]; (rw [decide_eq_true HXX.out]; rfl)) HR.out HB.out (by simp) (by omega)
theorem I5_any {v : Value} {x L : Nat} {s : Bool} {w : World} (h : Num w v x L) (hL : L ≤ 17179869184) : Calls Tryz.prog 83 #[.bool s, v] w (GI w (sg s x) L) := by
  cases s
  · exact I5_pos h trivial hL
  · rcases Nat.eq_zero_or_pos x with hx | hx
    · exact I5_zero h hx hL
    · exact I5_neg h hx hL

theorem sg_mul (s t : Bool) (x y : Nat) : sg (s != t) (x * y) = sg s x * sg t y := by
  unfold sg
  cases s <;> cases t <;> simp [Int.neg_mul, Int.mul_neg]
theorem sg_same (s : Bool) (x y : Nat) : sg s (x + y) = sg s x + sg s y := by
  unfold sg
  cases s <;> simp [Int.neg_add]
theorem sg_diff {s t : Bool} (h : s ≠ t) {x y : Nat} (hle : y ≤ x) : sg s (x - y) = sg s x + sg t y := by
  unfold sg
  cases s <;> cases t <;> simp at h ⊢ <;> omega
set_option maxHeartbeats 400000 in
theorem sameInt_yes {A A2 : Option Addr} {n c m c2 : Nat} {xs ys : List Nat} {s t : Bool} {w : World} (h : Rd .u64 w A n c xs) (h' : Rd .u64 w A2 m c2 ys) (hst : s = t) (e : xs = ys) (hn : n ≤ 1099511627776) :
    Calls Tryz.prog 34 #[.agg #[.bool s, .slice A n c], .agg #[.bool t, .slice A2 m c2]] w (Keeps (.bool true) w) := by
  subst hst
  have H := Lib.hid h
  have H' := Lib.hid h'
  have HE := Lib.hid e
  clear h h' e
  have q0 : (s == s) = true := by simp
  go_enter Tryz.func34, Tryz.ntmps34
  have e0 := ((At.boxc (i := 0) (v := .bool s) (t := 60) (b := w.heap.size) w #[.bool s, .slice A n c] rfl (by simp)).below ((Below.refl _ _).alloc (Nat.le_refl _) (.cells #[.bool s, .slice A2 m c2] 60))).1
  have e1 := ((At.boxc (i := 1) (v := .slice A n c) (t := 60) (b := w.heap.size) w #[.bool s, .slice A n c] rfl (by simp)).below ((Below.refl _ _).alloc (Nat.le_refl _) (.cells #[.bool s, .slice A2 m c2] 60))).1
  have e2 := (At.boxc (i := 0) (v := .bool s) (t := 60) (b := w.heap.size + 1) (World.alloc w (.cells #[.bool s, .slice A n c] 60)) #[.bool s, .slice A2 m c2] rfl (by simp)).1
  have e3 := (At.boxc (i := 1) (v := .slice A2 m c2) (t := 60) (b := w.heap.size + 1) (World.alloc w (.cells #[.bool s, .slice A n c] 60)) #[.bool s, .slice A2 m c2] rfl (by simp)).1
  go_wp2_with fail
  refine (same5k_any ((H.out.below ((Below.refl _ _).alloc (Nat.le_refl _) (.cells #[.bool s, .slice A n c] 60))).below ((Below.refl _ _).alloc (Nat.le_refl _) (.cells #[.bool s, .slice A2 m c2] 60))) ((H'.out.below ((Below.refl _ _).alloc (Nat.le_refl _) (.cells #[.bool s, .slice A n c] 60))).below ((Below.refl _ _).alloc (Nat.le_refl _) (.cells #[.bool s, .slice A2 m c2] 60))) HE.out hn).mono ?_
  rintro e w1 ⟨rfl, hb1⟩
  go_wp2
  go_ret
  exact ⟨rfl, (bt (bt ((Below.refl _ _).alloc (Nat.le_refl _) (.cells #[.bool s, .slice A n c] 60)) ((Below.refl _ _).alloc (Nat.le_refl _) (.cells #[.bool s, .slice A2 m c2] 60))) hb1)⟩
set_option maxHeartbeats 1000000 in
theorem mul5_any {A A' : Option Addr} {n c m d x y L M : Nat} {s t : Bool} {z1 z2 : Int} {w : World} (h : Num w (.slice A n c) x L) (h' : Num w (.slice A' m d) y M) (hz1 : sg s x = z1) (hz2 : sg t y = z2) (hL : L ≤ 8589934592) (hM : M ≤ 8589934592) :
    Calls Tryz.prog 95 #[.agg #[.bool s, .slice A n c], .agg #[.bool t, .slice A' m d]] w (GI w (z1 * z2) (max 1 (L + M))) := by
  subst hz1 hz2
  have H := Lib.hid h
  have H' := Lib.hid h'
  clear h h'
  go_enter Tryz.func95, Tryz.ntmps95
  go_wp2_with fail
  have e_f0 := (((At.boxc (i := 0) (v := .bool s) (t := 60) (b := w.heap.size) w #[.bool s, .slice A n c] rfl (by simp)).below ((Below.refl _ _).alloc (Nat.le_refl _) (.cells #[.bool t, .slice A' m d] 60))).below ((Below.refl _ _).alloc (Nat.le_refl _) (.cells #[.bool false, .slice none 0 0] 60))).1
  have g_f0 := At.growS (b := (w.heap.size + 1 + 1)) (((At.boxc (i := 0) (v := .bool s) (t := 60) (b := w.heap.size) w #[.bool s, .slice A n c] rfl (by simp)).below ((Below.refl _ _).alloc (Nat.le_refl _) (.cells #[.bool t, .slice A' m d] 60))).below ((Below.refl _ _).alloc (Nat.le_refl _) (.cells #[.bool false, .slice none 0 0] 60))) (by simp <;> omega)
  have e_g0 := ((At.boxc (i := 0) (v := .bool t) (t := 60) (b := w.heap.size + 1) (World.alloc w (.cells #[.bool s, .slice A n c] 60)) #[.bool t, .slice A' m d] rfl (by simp)).below ((Below.refl _ _).alloc (Nat.le_refl _) (.cells #[.bool false, .slice none 0 0] 60))).1
  have g_g0 := At.growS (b := (w.heap.size + 1 + 1)) ((At.boxc (i := 0) (v := .bool t) (t := 60) (b := w.heap.size + 1) (World.alloc w (.cells #[.bool s, .slice A n c] 60)) #[.bool t, .slice A' m d] rfl (by simp)).below ((Below.refl _ _).alloc (Nat.le_refl _) (.cells #[.bool false, .slice none 0 0] 60))) (by simp <;> omega)
  have e_f1 := (((At.boxc (i := 1) (v := .slice A n c) (t := 60) (b := w.heap.size) w #[.bool s, .slice A n c] rfl (by simp)).below ((Below.refl _ _).alloc (Nat.le_refl _) (.cells #[.bool t, .slice A' m d] 60))).below ((Below.refl _ _).alloc (Nat.le_refl _) (.cells #[.bool false, .slice none 0 0] 60))).1
  have g_f1 := At.growS (b := (w.heap.size + 1 + 1)) (((At.boxc (i := 1) (v := .slice A n c) (t := 60) (b := w.heap.size) w #[.bool s, .slice A n c] rfl (by simp)).below ((Below.refl _ _).alloc (Nat.le_refl _) (.cells #[.bool t, .slice A' m d] 60))).below ((Below.refl _ _).alloc (Nat.le_refl _) (.cells #[.bool false, .slice none 0 0] 60))) (by simp <;> omega)
  have e_g1 := ((At.boxc (i := 1) (v := .slice A' m d) (t := 60) (b := w.heap.size + 1) (World.alloc w (.cells #[.bool s, .slice A n c] 60)) #[.bool t, .slice A' m d] rfl (by simp)).below ((Below.refl _ _).alloc (Nat.le_refl _) (.cells #[.bool false, .slice none 0 0] 60))).1
  have g_g1 := At.growS (b := (w.heap.size + 1 + 1)) ((At.boxc (i := 1) (v := .slice A' m d) (t := 60) (b := w.heap.size + 1) (World.alloc w (.cells #[.bool s, .slice A n c] 60)) #[.bool t, .slice A' m d] rfl (by simp)).below ((Below.refl _ _).alloc (Nat.le_refl _) (.cells #[.bool false, .slice none 0 0] 60))) (by simp <;> omega)
  refine wp_region_grow (some (w.heap.size + 1 + 1)) [(true, 0), (true, 1), (true, 2), (true, 3), (true, 4), (true, 5), (true, 6), (true, 7), (true, 8), (false, 9), (false, 10), (false, 11)] (by kernel_rfl) (by kernel_rfl) ?_
  repeat (refine ord_pas (by rfl) (fun K hK => ?_); go_simp; refine hK _ _ (fun w' hw' => (by first | (go_simp; done) | (go_simp; intro hh; cases hh))) ?_; clear hK K)
  (refine ord_call (by rfl) (fun K hK => ?_); go_simp; refine hK _ _ ?_; clear hK K)
  refine (times5_any ((((H.out.below ((Below.refl _ _).alloc (Nat.le_refl _) (.cells #[.bool s, .slice A n c] 60))).below ((Below.refl _ _).alloc (Nat.le_refl _) (.cells #[.bool t, .slice A' m d] 60))).below ((Below.refl _ _).alloc (Nat.le_refl _) (.cells #[.bool false, .slice none 0 0] 60))).below (Below.refl _ _).drew) ((((H'.out.below ((Below.refl _ _).alloc (Nat.le_refl _) (.cells #[.bool s, .slice A n c] 60))).below ((Below.refl _ _).alloc (Nat.le_refl _) (.cells #[.bool t, .slice A' m d] 60))).below ((Below.refl _ _).alloc (Nat.le_refl _) (.cells #[.bool false, .slice none 0 0] 60))).below (Below.refl _ _).drew) (by omega) (by omega)).mono ?_
  rintro e w1 ⟨A_p, n_p, c_p, rfl, o_p, hb1, l_p⟩
  refine ⟨_, rfl, Grow.of_below hb1, ?_⟩
  (refine ord_norm (fun K hK => ?_); go_simp; refine hK _ ?_; clear hK K)
  (refine ord_call (by rfl) (fun K hK => ?_); go_simp; refine hK _ _ ?_; clear hK K)
  refine (I5_any (o_p.num l_p) (by omega)).mono ?_
  rintro e w2 ⟨A_r, n_r, c_r, s_r, rfl, hs_r, o_r, hb2, l_r⟩
  refine ⟨_, rfl, Grow.of_below hb2, ?_⟩
  (refine ord_norm (fun K hK => ?_); go_simp; refine hK _ ?_; clear hK K)
  have c1 := ((((Cel.box (i := 0) (v := .bool false) (t := 60) (b := w.heap.size + 1 + 1) (World.alloc (World.alloc w (.cells #[.bool s, .slice A n c] 60)) (.cells #[.bool t, .slice A' m d] 60)) #[.bool false, .slice none 0 0] rfl (by simp)).below (Below.refl _ _).drew).below hb1).below hb2)
  have c2 := ((((Cel.box (i := 1) (v := .slice none 0 0) (t := 60) (b := w.heap.size + 1 + 1) (World.alloc (World.alloc w (.cells #[.bool s, .slice A n c] 60)) (.cells #[.bool t, .slice A' m d] 60)) #[.bool false, .slice none 0 0] rfl (by simp)).below (Below.refl _ _).drew).below hb1).below hb2)
  obtain ⟨c1a, c1b, c1c⟩ := c1
  obtain ⟨c2a, c2b, c2c⟩ := c2
  (refine ord_act (by rfl) (fun K hK => ?_); go_simp)
  refine hK _ _ ⟨Grow.trans _ _ _ _ (Grow.set rfl _) (Grow.set rfl _), ?_⟩
  clear hK K
  refine ord_nil ?_
  have HO := Lib.hid o_r
  have HB := Lib.hid (bt (bt (bt (bt (bt ((Below.refl _ _).alloc (Nat.le_refl _) (.cells #[.bool s, .slice A n c] 60)) ((Below.refl _ _).alloc (Nat.le_refl _) (.cells #[.bool t, .slice A' m d] 60))) ((Below.refl _ _).alloc (Nat.le_refl _) (.cells #[.bool false, .slice none 0 0] 60))) (Below.refl _ _).drew) hb1) hb2)
  go_wp2
  refine bodyPost_ret (v := .agg #[.bool s_r, .slice A_r n_r c_r]) (by simp [results, Tryz.results95, go_sem, c1a, c2a]) rfl ?_
  refine GI.eq (gi_fin (wb := w1) hs_r HO.out HB.out ?_ (by omega)) (sg_mul s t x y)
  refine ⟨by omega, ?_⟩
  have := hb1.size
  simp at this
  omega
set_option maxHeartbeats 1000000 in
theorem add5_same {A A' : Option Addr} {n c m d x y L M : Nat} {s t : Bool} {w : World} (h : Num w (.slice A n c) x L) (h' : Num w (.slice A' m d) y M) (hst : s = t) (hL : L ≤ 8589934592) (hM : M ≤ 8589934592) :
    Calls Tryz.prog 96 #[.agg #[.bool s, .slice A n c], .agg #[.bool t, .slice A' m d]] w (GI w (sg s x + sg t y) (max L M + 1)) := by
  subst hst
  have q0 : (s == s) = true := by simp
  obtain ⟨t, ht⟩ : ∃ t, t = s := ⟨s, rfl⟩
  have H := Lib.hid h
  have H' := Lib.hid h'
  clear h h'
  go_enter Tryz.func96, Tryz.ntmps96
  have e0 := (((At.boxc (i := 0) (v := .bool s) (t := 60) (b := w.heap.size) w #[.bool s, .slice A n c] rfl (by simp)).below ((Below.refl _ _).alloc (Nat.le_refl _) (.cells #[.bool s, .slice A' m d] 60))).below ((Below.refl _ _).alloc (Nat.le_refl _) (.cells #[.bool false, .slice none 0 0] 60))).1
  have e1 := ((At.boxc (i := 0) (v := .bool s) (t := 60) (b := w.heap.size + 1) (World.alloc w (.cells #[.bool s, .slice A n c] 60)) #[.bool s, .slice A' m d] rfl (by simp)).below ((Below.refl _ _).alloc (Nat.le_refl _) (.cells #[.bool false, .slice none 0 0] 60))).1
  go_wp2_with fail
  clear e0 e1
  go_wp2_with fail
  have e_f0 := (((At.boxc (i := 0) (v := .bool s) (t := 60) (b := w.heap.size) w #[.bool s, .slice A n c] rfl (by simp)).below ((Below.refl _ _).alloc (Nat.le_refl _) (.cells #[.bool s, .slice A' m d] 60))).below ((Below.refl _ _).alloc (Nat.le_refl _) (.cells #[.bool false, .slice none 0 0] 60))).1
  have g_f0 := At.growS (b := (w.heap.size + 1 + 1)) (((At.boxc (i := 0) (v := .bool s) (t := 60) (b := w.heap.size) w #[.bool s, .slice A n c] rfl (by simp)).below ((Below.refl _ _).alloc (Nat.le_refl _) (.cells #[.bool s, .slice A' m d] 60))).below ((Below.refl _ _).alloc (Nat.le_refl _) (.cells #[.bool false, .slice none 0 0] 60))) (by simp <;> omega)
  have e_f1 := (((At.boxc (i := 1) (v := .slice A n c) (t := 60) (b := w.heap.size) w #[.bool s, .slice A n c] rfl (by simp)).below ((Below.refl _ _).alloc (Nat.le_refl _) (.cells #[.bool s, .slice A' m d] 60))).below ((Below.refl _ _).alloc (Nat.le_refl _) (.cells #[.bool false, .slice none 0 0] 60))).1
  have g_f1 := At.growS (b := (w.heap.size + 1 + 1)) (((At.boxc (i := 1) (v := .slice A n c) (t := 60) (b := w.heap.size) w #[.bool s, .slice A n c] rfl (by simp)).below ((Below.refl _ _).alloc (Nat.le_refl _) (.cells #[.bool s, .slice A' m d] 60))).below ((Below.refl _ _).alloc (Nat.le_refl _) (.cells #[.bool false, .slice none 0 0] 60))) (by simp <;> omega)
  have e_g1 := ((At.boxc (i := 1) (v := .slice A' m d) (t := 60) (b := w.heap.size + 1) (World.alloc w (.cells #[.bool s, .slice A n c] 60)) #[.bool s, .slice A' m d] rfl (by simp)).below ((Below.refl _ _).alloc (Nat.le_refl _) (.cells #[.bool false, .slice none 0 0] 60))).1
  have g_g1 := At.growS (b := (w.heap.size + 1 + 1)) ((At.boxc (i := 1) (v := .slice A' m d) (t := 60) (b := w.heap.size + 1) (World.alloc w (.cells #[.bool s, .slice A n c] 60)) #[.bool s, .slice A' m d] rfl (by simp)).below ((Below.refl _ _).alloc (Nat.le_refl _) (.cells #[.bool false, .slice none 0 0] 60))) (by simp <;> omega)
  refine wp_region_grow (some (w.heap.size + 1 + 1)) [(true, 0), (true, 1), (true, 2), (true, 3), (true, 4), (true, 5), (false, 6), (false, 7), (false, 8)] (by kernel_rfl) (by kernel_rfl) ?_
  repeat (refine ord_pas (by rfl) (fun K hK => ?_); go_simp; refine hK _ _ (fun w' hw' => (by first | (go_simp; done) | (go_simp; intro hh; cases hh))) ?_; clear hK K)
  (refine ord_call (by rfl) (fun K hK => ?_); go_simp; refine hK _ _ ?_; clear hK K)
  refine (plus5_any ((((H.out.below ((Below.refl _ _).alloc (Nat.le_refl _) (.cells #[.bool s, .slice A n c] 60))).below ((Below.refl _ _).alloc (Nat.le_refl _) (.cells #[.bool s, .slice A' m d] 60))).below ((Below.refl _ _).alloc (Nat.le_refl _) (.cells #[.bool false, .slice none 0 0] 60))).below (Below.refl _ _).drew) ((((H'.out.below ((Below.refl _ _).alloc (Nat.le_refl _) (.cells #[.bool s, .slice A n c] 60))).below ((Below.refl _ _).alloc (Nat.le_refl _) (.cells #[.bool s, .slice A' m d] 60))).below ((Below.refl _ _).alloc (Nat.le_refl _) (.cells #[.bool false, .slice none 0 0] 60))).below (Below.refl _ _).drew) (by omega) (by omega)).mono ?_
  rintro e w1 ⟨A_p, n_p, c_p, rfl, o_p, hb1, l_p⟩
  refine ⟨_, rfl, Grow.of_below hb1, ?_⟩
  (refine ord_norm (fun K hK => ?_); go_simp; refine hK _ ?_; clear hK K)
  have HBW := Lib.hid hb1
  (refine ord_call (by rfl) (fun K hK => ?_); go_simp; refine hK _ _ ?_; clear hK K)
  refine (I5_any (o_p.num l_p) (by omega)).mono ?_
  rintro e w2 ⟨A_r, n_r, c_r, s_r, rfl, hs_r, o_r, hb2, l_r⟩
  refine ⟨_, rfl, Grow.of_below hb2, ?_⟩
  (refine ord_norm (fun K hK => ?_); go_simp; refine hK _ ?_; clear hK K)
  have c1 := ((((Cel.box (i := 0) (v := .bool false) (t := 60) (b := w.heap.size + 1 + 1) (World.alloc (World.alloc w (.cells #[.bool s, .slice A n c] 60)) (.cells #[.bool s, .slice A' m d] 60)) #[.bool false, .slice none 0 0] rfl (by simp)).below (Below.refl _ _).drew).below hb1).below hb2)
  have c2 := ((((Cel.box (i := 1) (v := .slice none 0 0) (t := 60) (b := w.heap.size + 1 + 1) (World.alloc (World.alloc w (.cells #[.bool s, .slice A n c] 60)) (.cells #[.bool s, .slice A' m d] 60)) #[.bool false, .slice none 0 0] rfl (by simp)).below (Below.refl _ _).drew).below hb1).below hb2)
  obtain ⟨c1a, c1b, c1c⟩ := c1
  obtain ⟨c2a, c2b, c2c⟩ := c2
  (refine ord_act (by rfl) (fun K hK => ?_); go_simp)
  refine hK _ _ ⟨Grow.trans _ _ _ _ (Grow.set rfl _) (Grow.set rfl _), ?_⟩
  clear hK K
  refine ord_nil ?_
  have HO := Lib.hid o_r
  have HB := Lib.hid (bt (bt (bt (bt (bt ((Below.refl _ _).alloc (Nat.le_refl _) (.cells #[.bool s, .slice A n c] 60)) ((Below.refl _ _).alloc (Nat.le_refl _) (.cells #[.bool s, .slice A' m d] 60))) ((Below.refl _ _).alloc (Nat.le_refl _) (.cells #[.bool false, .slice none 0 0] 60))) (Below.refl _ _).drew) hb1) hb2)
  go_wp2
  refine bodyPost_ret (v := .agg #[.bool s_r, .slice A_r n_r c_r]) (by simp [results, Tryz.results96, go_sem, c1a, c2a]) rfl ?_
  refine GI.eq (gi_fin (L := (max L M + 1)) (wb := w1) hs_r HO.out HB.out ?_ (by omega)) (sg_same s x y)
  refine ⟨by omega, ?_⟩
  have := HBW.out.size
  simp at this
  omega
set_option maxHeartbeats 1000000 in
theorem add5_ge {A A' : Option Addr} {n c m d x y L M : Nat} {s t : Bool} {w : World} (h : Num w (.slice A n c) x L) (h' : Num w (.slice A' m d) y M) (hst : s ≠ t) (hle : y ≤ x) (hL1 : 1 ≤ L) (hL : L ≤ 8589934592) (hM : M ≤ 8589934592) :
    Calls Tryz.prog 96 #[.agg #[.bool s, .slice A n c], .agg #[.bool t, .slice A' m d]] w (GI w (sg s x + sg t y) (max L M + 1)) := by
  have q0 : (s == t) = false := by cases s <;> cases t <;> simp at hst ⊢
  have HST := Lib.hid hst
  have HLE := Lib.hid hle
  obtain ⟨z, hz⟩ : ∃ z, z = cmpN x y := ⟨_, rfl⟩
  have d0 : decide ((0 : Int) ≤ z) = true := by rw [hz, cmpN, if_neg (by omega)]; split <;> decide
  have CC := Lib.hid fun (w : World) (a : Num w (.slice A n c) x L) (b : Num w (.slice A' m d) y M) => cmp5_any a b (by omega) (by omega)
  rw [← hz] at CC
  clear hst hle hz
  have H := Lib.hid h
  have H' := Lib.hid h'
  clear h h'
  go_enter Tryz.func96, Tryz.ntmps96
  have e0 := (((At.boxc (i := 0) (v := .bool s) (t := 60) (b := w.heap.size) w #[.bool s, .slice A n c] rfl (by simp)).below ((Below.refl _ _).alloc (Nat.le_refl _) (.cells #[.bool t, .slice A' m d] 60))).below ((Below.refl _ _).alloc (Nat.le_refl _) (.cells #[.bool false, .slice none 0 0] 60))).1
  have e1 := ((At.boxc (i := 0) (v := .bool t) (t := 60) (b := w.heap.size + 1) (World.alloc w (.cells #[.bool s, .slice A n c] 60)) #[.bool t, .slice A' m d] rfl (by simp)).below ((Below.refl _ _).alloc (Nat.le_refl _) (.cells #[.bool false, .slice none 0 0] 60))).1
  have e2 := (((At.boxc (i := 1) (v := .slice A n c) (t := 60) (b := w.heap.size) w #[.bool s, .slice A n c] rfl (by simp)).below ((Below.refl _ _).alloc (Nat.le_refl _) (.cells #[.bool t, .slice A' m d] 60))).below ((Below.refl _ _).alloc (Nat.le_refl _) (.cells #[.bool false, .slice none 0 0] 60))).1
  have e3 := ((At.boxc (i := 1) (v := .slice A' m d) (t := 60) (b := w.heap.size + 1) (World.alloc w (.cells #[.bool s, .slice A n c] 60)) #[.bool t, .slice A' m d] rfl (by simp)).below ((Below.refl _ _).alloc (Nat.le_refl _) (.cells #[.bool false, .slice none 0 0] 60))).1
  go_wp2_with fail
  refine (CC.out _ (((H.out.below ((Below.refl _ _).alloc (Nat.le_refl _) (.cells #[.bool s, .slice A n c] 60))).below ((Below.refl _ _).alloc (Nat.le_refl _) (.cells #[.bool t, .slice A' m d] 60))).below ((Below.refl _ _).alloc (Nat.le_refl _) (.cells #[.bool false, .slice none 0 0] 60))) (((H'.out.below ((Below.refl _ _).alloc (Nat.le_refl _) (.cells #[.bool s, .slice A n c] 60))).below ((Below.refl _ _).alloc (Nat.le_refl _) (.cells #[.bool t, .slice A' m d] 60))).below ((Below.refl _ _).alloc (Nat.le_refl _) (.cells #[.bool false, .slice none 0 0] 60)))).mono ?_
  rintro e w1 ⟨rfl, hb1⟩
  clear e0 e1 e2 e3
  have HBC := Lib.hid hb1
  go_wp2_with fail
  have e_f0 := ((((At.boxc (i := 0) (v := .bool s) (t := 60) (b := w.heap.size) w #[.bool s, .slice A n c] rfl (by simp)).below ((Below.refl _ _).alloc (Nat.le_refl _) (.cells #[.bool t, .slice A' m d] 60))).below ((Below.refl _ _).alloc (Nat.le_refl _) (.cells #[.bool false, .slice none 0 0] 60))).below hb1).1
  have g_f0 := At.growS (b := (w.heap.size + 1 + 1)) ((((At.boxc (i := 0) (v := .bool s) (t := 60) (b := w.heap.size) w #[.bool s, .slice A n c] rfl (by simp)).below ((Below.refl _ _).alloc (Nat.le_refl _) (.cells #[.bool t, .slice A' m d] 60))).below ((Below.refl _ _).alloc (Nat.le_refl _) (.cells #[.bool false, .slice none 0 0] 60))).below hb1) (by simp <;> omega)
  have e_f1 := ((((At.boxc (i := 1) (v := .slice A n c) (t := 60) (b := w.heap.size) w #[.bool s, .slice A n c] rfl (by simp)).below ((Below.refl _ _).alloc (Nat.le_refl _) (.cells #[.bool t, .slice A' m d] 60))).below ((Below.refl _ _).alloc (Nat.le_refl _) (.cells #[.bool false, .slice none 0 0] 60))).below hb1).1
  have g_f1 := At.growS (b := (w.heap.size + 1 + 1)) ((((At.boxc (i := 1) (v := .slice A n c) (t := 60) (b := w.heap.size) w #[.bool s, .slice A n c] rfl (by simp)).below ((Below.refl _ _).alloc (Nat.le_refl _) (.cells #[.bool t, .slice A' m d] 60))).below ((Below.refl _ _).alloc (Nat.le_refl _) (.cells #[.bool false, .slice none 0 0] 60))).below hb1) (by simp <;> omega)
  have e_g1 := (((At.boxc (i := 1) (v := .slice A' m d) (t := 60) (b := w.heap.size + 1) (World.alloc w (.cells #[.bool s, .slice A n c] 60)) #[.bool t, .slice A' m d] rfl (by simp)).below ((Below.refl _ _).alloc (Nat.le_refl _) (.cells #[.bool false, .slice none 0 0] 60))).below hb1).1
  have g_g1 := At.growS (b := (w.heap.size + 1 + 1)) (((At.boxc (i := 1) (v := .slice A' m d) (t := 60) (b := w.heap.size + 1) (World.alloc w (.cells #[.bool s, .slice A n c] 60)) #[.bool t, .slice A' m d] rfl (by simp)).below ((Below.refl _ _).alloc (Nat.le_refl _) (.cells #[.bool false, .slice none 0 0] 60))).below hb1) (by simp <;> omega)
  refine wp_region_grow (some (w.heap.size + 1 + 1)) [(true, 0), (true, 1), (true, 2), (true, 3), (true, 4), (true, 5), (false, 6), (false, 7), (false, 8)] (by kernel_rfl) (by kernel_rfl) ?_
  repeat (refine ord_pas (by rfl) (fun K hK => ?_); go_simp; refine hK _ _ (fun w' hw' => (by first | (go_simp; done) | (go_simp; intro hh; cases hh))) ?_; clear hK K)
  (refine ord_call (by rfl) (fun K hK => ?_); go_simp; refine hK _ _ ?_; clear hK K)
  refine (minus5_any (((((H.out.below ((Below.refl _ _).alloc (Nat.le_refl _) (.cells #[.bool s, .slice A n c] 60))).below ((Below.refl _ _).alloc (Nat.le_refl _) (.cells #[.bool t, .slice A' m d] 60))).below ((Below.refl _ _).alloc (Nat.le_refl _) (.cells #[.bool false, .slice none 0 0] 60))).below hb1).below (Below.refl _ _).drew) (((((H'.out.below ((Below.refl _ _).alloc (Nat.le_refl _) (.cells #[.bool s, .slice A n c] 60))).below ((Below.refl _ _).alloc (Nat.le_refl _) (.cells #[.bool t, .slice A' m d] 60))).below ((Below.refl _ _).alloc (Nat.le_refl _) (.cells #[.bool false, .slice none 0 0] 60))).below hb1).below (Below.refl _ _).drew) HLE.out hL1 (by omega) (by omega)).mono ?_
  rintro e w2 ⟨A_p, n_p, c_p, rfl, o_p, hb2, l_p⟩
  refine ⟨_, rfl, Grow.of_below hb2, ?_⟩
  (refine ord_norm (fun K hK => ?_); go_simp; refine hK _ ?_; clear hK K)
  have HBW := Lib.hid (bt HBC.out (bd hb2))
  (refine ord_call (by rfl) (fun K hK => ?_); go_simp; refine hK _ _ ?_; clear hK K)
  refine (I5_any (o_p.num l_p) (by omega)).mono ?_
  rintro e w3 ⟨A_r, n_r, c_r, s_r, rfl, hs_r, o_r, hb3, l_r⟩
  refine ⟨_, rfl, Grow.of_below hb3, ?_⟩
  (refine ord_norm (fun K hK => ?_); go_simp; refine hK _ ?_; clear hK K)
  have c1 := (((((Cel.box (i := 0) (v := .bool false) (t := 60) (b := w.heap.size + 1 + 1) (World.alloc (World.alloc w (.cells #[.bool s, .slice A n c] 60)) (.cells #[.bool t, .slice A' m d] 60)) #[.bool false, .slice none 0 0] rfl (by simp)).below hb1).below (Below.refl _ _).drew).below hb2).below hb3)
  have c2 := (((((Cel.box (i := 1) (v := .slice none 0 0) (t := 60) (b := w.heap.size + 1 + 1) (World.alloc (World.alloc w (.cells #[.bool s, .slice A n c] 60)) (.cells #[.bool t, .slice A' m d] 60)) #[.bool false, .slice none 0 0] rfl (by simp)).below hb1).below (Below.refl _ _).drew).below hb2).below hb3)
  obtain ⟨c1a, c1b, c1c⟩ := c1
  obtain ⟨c2a, c2b, c2c⟩ := c2
  (refine ord_act (by rfl) (fun K hK => ?_); go_simp)
  refine hK _ _ ⟨Grow.trans _ _ _ _ (Grow.set rfl _) (Grow.set rfl _), ?_⟩
  clear hK K
  refine ord_nil ?_
  have HO := Lib.hid o_r
  have HB := Lib.hid (bt (bt (bt (bt (bt (bt ((Below.refl _ _).alloc (Nat.le_refl _) (.cells #[.bool s, .slice A n c] 60)) ((Below.refl _ _).alloc (Nat.le_refl _) (.cells #[.bool t, .slice A' m d] 60))) ((Below.refl _ _).alloc (Nat.le_refl _) (.cells #[.bool false, .slice none 0 0] 60))) hb1) (Below.refl _ _).drew) hb2) hb3)
  go_wp2
  refine bodyPost_ret (v := .agg #[.bool s_r, .slice A_r n_r c_r]) (by simp [results, Tryz.results96, go_sem, c1a, c2a]) rfl ?_
  refine GI.eq (gi_fin (L := (max L M + 1)) (wb := w2) hs_r HO.out HB.out ?_ (by omega)) (sg_diff HST.out HLE.out)
  refine ⟨by omega, ?_⟩
  have := HBW.out.size
  simp at this
  omega
set_option maxHeartbeats 1000000 in
theorem add5_lt {A A' : Option Addr} {n c m d x y L M : Nat} {s t : Bool} {w : World} (h : Num w (.slice A n c) x L) (h' : Num w (.slice A' m d) y M) (hst : s ≠ t) (hle : x < y) (hM1 : 1 ≤ M) (hL : L ≤ 8589934592) (hM : M ≤ 8589934592) :
    Calls Tryz.prog 96 #[.agg #[.bool s, .slice A n c], .agg #[.bool t, .slice A' m d]] w (GI w (sg s x + sg t y) (max L M + 1)) := by
  have q0 : (s == t) = false := by cases s <;> cases t <;> simp at hst ⊢
  have HST : Hid (t ≠ s) := Ne.symm hst
  have HLE : Hid (x ≤ y) := Nat.le_of_lt hle
  obtain ⟨z, hz⟩ : ∃ z, z = cmpN x y := ⟨_, rfl⟩
  have d0 : decide ((0 : Int) ≤ z) = false := by rw [hz, cmpN, if_pos hle]; decide
  have CC := Lib.hid fun (w : World) (a : Num w (.slice A n c) x L) (b : Num w (.slice A' m d) y M) => cmp5_any a b (by omega) (by omega)
  rw [← hz] at CC
  clear hst hle hz
  have H := Lib.hid h
  have H' := Lib.hid h'
  clear h h'
  go_enter Tryz.func96, Tryz.ntmps96
  have e0 := (((At.boxc (i := 0) (v := .bool s) (t := 60) (b := w.heap.size) w #[.bool s, .slice A n c] rfl (by simp)).below ((Below.refl _ _).alloc (Nat.le_refl _) (.cells #[.bool t, .slice A' m d] 60))).below ((Below.refl _ _).alloc (Nat.le_refl _) (.cells #[.bool false, .slice none 0 0] 60))).1
  have e1 := ((At.boxc (i := 0) (v := .bool t) (t := 60) (b := w.heap.size + 1) (World.alloc w (.cells #[.bool s, .slice A n c] 60)) #[.bool t, .slice A' m d] rfl (by simp)).below ((Below.refl _ _).alloc (Nat.le_refl _) (.cells #[.bool false, .slice none 0 0] 60))).1
  have e2 := (((At.boxc (i := 1) (v := .slice A n c) (t := 60) (b := w.heap.size) w #[.bool s, .slice A n c] rfl (by simp)).below ((Below.refl _ _).alloc (Nat.le_refl _) (.cells #[.bool t, .slice A' m d] 60))).below ((Below.refl _ _).alloc (Nat.le_refl _) (.cells #[.bool false, .slice none 0 0] 60))).1
  have e3 := ((At.boxc (i := 1) (v := .slice A' m d) (t := 60) (b := w.heap.size + 1) (World.alloc w (.cells #[.bool s, .slice A n c] 60)) #[.bool t, .slice A' m d] rfl (by simp)).below ((Below.refl _ _).alloc (Nat.le_refl _) (.cells #[.bool false, .slice none 0 0] 60))).1
  go_wp2_with fail
  refine (CC.out _ (((H.out.below ((Below.refl _ _).alloc (Nat.le_refl _) (.cells #[.bool s, .slice A n c] 60))).below ((Below.refl _ _).alloc (Nat.le_refl _) (.cells #[.bool t, .slice A' m d] 60))).below ((Below.refl _ _).alloc (Nat.le_refl _) (.cells #[.bool false, .slice none 0 0] 60))) (((H'.out.below ((Below.refl _ _).alloc (Nat.le_refl _) (.cells #[.bool s, .slice A n c] 60))).below ((Below.refl _ _).alloc (Nat.le_refl _) (.cells #[.bool t, .slice A' m d] 60))).below ((Below.refl _ _).alloc (Nat.le_refl _) (.cells #[.bool false, .slice none 0 0] 60)))).mono ?_
  rintro e w1 ⟨rfl, hb1⟩
  clear e0 e1 e2 e3
  have HBC := Lib.hid hb1
  go_wp2_with fail
  have e_g0 := (((At.boxc (i := 0) (v := .bool t) (t := 60) (b := w.heap.size + 1) (World.alloc w (.cells #[.bool s, .slice A n c] 60)) #[.bool t, .slice A' m d] rfl (by simp)).below ((Below.refl _ _).alloc (Nat.le_refl _) (.cells #[.bool false, .slice none 0 0] 60))).below hb1).1
  have g_g0 := At.growS (b := (w.heap.size + 1 + 1)) (((At.boxc (i := 0) (v := .bool t) (t := 60) (b := w.heap.size + 1) (World.alloc w (.cells #[.bool s, .slice A n c] 60)) #[.bool t, .slice A' m d] rfl (by simp)).below ((Below.refl _ _).alloc (Nat.le_refl _) (.cells #[.bool false, .slice none 0 0] 60))).below hb1) (by simp <;> omega)
  have e_g1 := (((At.boxc (i := 1) (v := .slice A' m d) (t := 60) (b := w.heap.size + 1) (World.alloc w (.cells #[.bool s, .slice A n c] 60)) #[.bool t, .slice A' m d] rfl (by simp)).below ((Below.refl _ _).alloc (Nat.le_refl _) (.cells #[.bool false, .slice none 0 0] 60))).below hb1).1
  have g_g1 := At.growS (b := (w.heap.size + 1 + 1)) (((At.boxc (i := 1) (v := .slice A' m d) (t := 60) (b := w.heap.size + 1) (World.alloc w (.cells #[.bool s, .slice A n c] 60)) #[.bool t, .slice A' m d] rfl (by simp)).below ((Below.refl _ _).alloc (Nat.le_refl _) (.cells #[.bool false, .slice none 0 0] 60))).below hb1) (by simp <;> omega)
  have e_f1 := ((((At.boxc (i := 1) (v := .slice A n c) (t := 60) (b := w.heap.size) w #[.bool s, .slice A n c] rfl (by simp)).below ((Below.refl _ _).alloc (Nat.le_refl _) (.cells #[.bool t, .slice A' m d] 60))).below ((Below.refl _ _).alloc (Nat.le_refl _) (.cells #[.bool false, .slice none 0 0] 60))).below hb1).1
  have g_f1 := At.growS (b := (w.heap.size + 1 + 1)) ((((At.boxc (i := 1) (v := .slice A n c) (t := 60) (b := w.heap.size) w #[.bool s, .slice A n c] rfl (by simp)).below ((Below.refl _ _).alloc (Nat.le_refl _) (.cells #[.bool t, .slice A' m d] 60))).below ((Below.refl _ _).alloc (Nat.le_refl _) (.cells #[.bool false, .slice none 0 0] 60))).below hb1) (by simp <;> omega)
  refine wp_region_grow (some (w.heap.size + 1 + 1)) [(true, 0), (true, 1), (true, 2), (true, 3), (true, 4), (true, 5), (false, 6), (false, 7), (false, 8)] (by kernel_rfl) (by kernel_rfl) ?_
  repeat (refine ord_pas (by rfl) (fun K hK => ?_); go_simp; refine hK _ _ (fun w' hw' => (by first | (go_simp; done) | (go_simp; intro hh; cases hh))) ?_; clear hK K)
  (refine ord_call (by rfl) (fun K hK => ?_); go_simp; refine hK _ _ ?_; clear hK K)
  refine (minus5_any (((((H'.out.below ((Below.refl _ _).alloc (Nat.le_refl _) (.cells #[.bool s, .slice A n c] 60))).below ((Below.refl _ _).alloc (Nat.le_refl _) (.cells #[.bool t, .slice A' m d] 60))).below ((Below.refl _ _).alloc (Nat.le_refl _) (.cells #[.bool false, .slice none 0 0] 60))).below hb1).below (Below.refl _ _).drew) (((((H.out.below ((Below.refl _ _).alloc (Nat.le_refl _) (.cells #[.bool s, .slice A n c] 60))).below ((Below.refl _ _).alloc (Nat.le_refl _) (.cells #[.bool t, .slice A' m d] 60))).below ((Below.refl _ _).alloc (Nat.le_refl _) (.cells #[.bool false, .slice none 0 0] 60))).below hb1).below (Below.refl _ _).drew) HLE.out hM1 (by omega) (by omega)).mono ?_
  rintro e w2 ⟨A_p, n_p, c_p, rfl, o_p, hb2, l_p⟩
  refine ⟨_, rfl, Grow.of_below hb2, ?_⟩
  (refine ord_norm (fun K hK => ?_); go_simp; refine hK _ ?_; clear hK K)
  have HBW := Lib.hid (bt HBC.out (bd hb2))
  (refine ord_call (by rfl) (fun K hK => ?_); go_simp; refine hK _ _ ?_; clear hK K)
  refine (I5_any (o_p.num l_p) (by omega)).mono ?_
  rintro e w3 ⟨A_r, n_r, c_r, s_r, rfl, hs_r, o_r, hb3, l_r⟩
  refine ⟨_, rfl, Grow.of_below hb3, ?_⟩
  (refine ord_norm (fun K hK => ?_); go_simp; refine hK _ ?_; clear hK K)
  have c1 := (((((Cel.box (i := 0) (v := .bool false) (t := 60) (b := w.heap.size + 1 + 1) (World.alloc (World.alloc w (.cells #[.bool s, .slice A n c] 60)) (.cells #[.bool t, .slice A' m d] 60)) #[.bool false, .slice none 0 0] rfl (by simp)).below hb1).below (Below.refl _ _).drew).below hb2).below hb3)
  have c2 := (((((Cel.box (i := 1) (v := .slice none 0 0) (t := 60) (b := w.heap.size + 1 + 1) (World.alloc (World.alloc w (.cells #[.bool s, .slice A n c] 60)) (.cells #[.bool t, .slice A' m d] 60)) #[.bool false, .slice none 0 0] rfl (by simp)).below hb1).below (Below.refl _ _).drew).below hb2).below hb3)
  obtain ⟨c1a, c1b, c1c⟩ := c1
  obtain ⟨c2a, c2b, c2c⟩ := c2
  (refine ord_act (by rfl) (fun K hK => ?_); go_simp)
  refine hK _ _ ⟨Grow.trans _ _ _ _ (Grow.set rfl _) (Grow.set rfl _), ?_⟩
  clear hK K
  refine ord_nil ?_
  have HO := Lib.hid o_r
  have HB := Lib.hid (bt (bt (bt (bt (bt (bt ((Below.refl _ _).alloc (Nat.le_refl _) (.cells #[.bool s, .slice A n c] 60)) ((Below.refl _ _).alloc (Nat.le_refl _) (.cells #[.bool t, .slice A' m d] 60))) ((Below.refl _ _).alloc (Nat.le_refl _) (.cells #[.bool false, .slice none 0 0] 60))) hb1) (Below.refl _ _).drew) hb2) hb3)
  go_wp2
  refine bodyPost_ret (v := .agg #[.bool s_r, .slice A_r n_r c_r]) (by simp [results, Tryz.results96, go_sem, c1a, c2a]) rfl ?_
  refine GI.eq (gi_fin (L := (max L M + 1)) (wb := w2) hs_r HO.out HB.out ?_ (by omega)) ((sg_diff HST.out HLE.out).trans (Int.add_comm _ _))
  refine ⟨by omega, ?_⟩
  have := HBW.out.size
  simp at this
  omega
theorem add5_any {A A' : Option Addr} {n c m d x y L M : Nat} {s t : Bool} {z1 z2 : Int} {w : World} (h : Num w (.slice A n c) x L) (h' : Num w (.slice A' m d) y M) (hz1 : sg s x = z1) (hz2 : sg t y = z2) (hL1 : 1 ≤ L) (hM1 : 1 ≤ M) (hL : L ≤ 8589934592) (hM : M ≤ 8589934592) :
    Calls Tryz.prog 96 #[.agg #[.bool s, .slice A n c], .agg #[.bool t, .slice A' m d]] w (GI w (z1 + z2) (max L M + 1)) := by
  subst hz1 hz2
  by_cases hst : s = t
  · exact add5_same h h' hst hL hM
  · rcases Nat.lt_or_ge x y with hle | hle
    · exact add5_lt h h' hst hle hM1 hL hM
    · exact add5_ge h h' hst hle hL1 hL hM
set_option maxHeartbeats 400000 in
theorem Z5_nat {x : Nat} {x' : Int} {w : World} (ex : x' = (x : Int)) (hx : x < 65536) : Calls Tryz.prog 35 #[.int .i64 x'] w (GI w (x : Int) 1) := by
  subst ex
  have d0 : decide ((x : Int) < 0) = false := by simp
  go_enter Tryz.func35, Tryz.ntmps35
  go_wp2_with fail
  refine (word5_any (x := x) rfl hx).mono ?_
  rintro e w1 ⟨A_p, n_p, c_p, rfl, o_p, hb1, l_p⟩
  have HBW := Lib.hid hb1
  go_wp2_with fail
  refine (I5_any (o_p.num l_p) (by omega)).mono ?_
  rintro e w2 ⟨A_r, n_r, c_r, s_r, rfl, hs_r, o_r, hb2, l_r⟩
  have c1 := (((Cel.box (i := 0) (v := .bool false) (t := 60) (b := w.heap.size) w #[.bool false, .slice none 0 0] rfl (by simp)).below hb1).below hb2)
  have c2 := (((Cel.box (i := 1) (v := .slice none 0 0) (t := 60) (b := w.heap.size) w #[.bool false, .slice none 0 0] rfl (by simp)).below hb1).below hb2)
  obtain ⟨c1a, c1b, c1c⟩ := c1
  obtain ⟨c2a, c2b, c2c⟩ := c2
  have HO := Lib.hid o_r
  have HB := Lib.hid (bt (bt ((Below.refl _ _).alloc (Nat.le_refl _) (.cells #[.bool false, .slice none 0 0] 60)) hb1) hb2)
  go_wp2
  refine bodyPost_ret (v := .agg #[.bool s_r, .slice A_r n_r c_r]) (by simp [results, Tryz.results35, go_sem, c1a, c2a]) rfl ?_
  refine GI.eq (gi_fin (L := 1) (wb := w1) hs_r HO.out HB.out ?_ (by omega)) (sg_false x)
  refine ⟨by omega, ?_⟩
  have := HBW.out.size
  simp at this
  omega
set_option maxHeartbeats 400000 in
theorem Z5_neg {x : Nat} {x' : Int} {w : World} (ex : x' = -(x : Int)) (hx0 : 0 < x) (hx : x < 65536) : Calls Tryz.prog 35 #[.int .i64 x'] w (GI w (-(x : Int)) 1) := by
  subst ex
  have d0 : decide (-(x : Int) < 0) = true := by simp; omega
  go_enter Tryz.func35, Tryz.ntmps35
  go_wp2_with fail
  refine (word5_any (x := x) (by first | omega | (rw [Int.neg_neg])) hx).mono ?_
  rintro e w1 ⟨A_p, n_p, c_p, rfl, o_p, hb1, l_p⟩
  have HBW := Lib.hid hb1
  go_wp2_with fail
  refine (I5_any (o_p.num l_p) (by omega)).mono ?_
  rintro e w2 ⟨A_r, n_r, c_r, s_r, rfl, hs_r, o_r, hb2, l_r⟩
  have c1 := (((Cel.box (i := 0) (v := .bool false) (t := 60) (b := w.heap.size) w #[.bool false, .slice none 0 0] rfl (by simp)).below hb1).below hb2)
  have c2 := (((Cel.box (i := 1) (v := .slice none 0 0) (t := 60) (b := w.heap.size) w #[.bool false, .slice none 0 0] rfl (by simp)).below hb1).below hb2)
  obtain ⟨c1a, c1b, c1c⟩ := c1
  obtain ⟨c2a, c2b, c2c⟩ := c2
  have HO := Lib.hid o_r
  have HB := Lib.hid (bt (bt ((Below.refl _ _).alloc (Nat.le_refl _) (.cells #[.bool false, .slice none 0 0] 60)) hb1) hb2)
  go_wp2
  refine bodyPost_ret (v := .agg #[.bool s_r, .slice A_r n_r c_r]) (by simp [results, Tryz.results35, go_sem, c1a, c2a]) rfl ?_
  refine GI.eq (gi_fin (L := 1) (wb := w1) hs_r HO.out HB.out ?_ (by omega)) (sg_true x)
  refine ⟨by omega, ?_⟩
  have := HBW.out.size
  simp at this
  omega
end Go.Proofs.YtamfhmmcnlollaaGreat
namespace Go.Proofs.YtamfhmmcnlollaaGreat
open Go.RowKit
set_option linter.unusedVariables false

/-- the number that a slice of digits reads as -/
def mvalb (b : Nat) (w : World) : Value → Nat
  | .slice (some a) n _ => val b ((List.range n).map fun i => cellNat (w.cell? (a.add i)))
  | _ => 0
theorem mvalb_rd {b : Nat} {k : IntKind} {w : World} {A : Option Addr} {n c : Nat} {xs : List Nat} (h1 : Rd k w A n c xs) : mvalb b w (.slice A n c) = val b xs := by
  rcases A with _ | a
  · have hn : n = 0 := by
      rcases Nat.eq_zero_or_pos n with h0 | h0
      · exact h0
      · obtain ⟨b, off, e, _⟩ := h1.2 h0
        cases e
    have := h1.len
    rw [hn] at this
    rw [List.eq_nil_of_length_eq_zero this]
    rfl
  · have : (List.range n).map (fun i => cellNat (w.cell? (a.add i))) = xs := by
      refine List.ext_getElem (by simp [h1.len]) fun i hi hi' => ?_
      have hin : i < n := by simpa using hi
      obtain ⟨b, off, e, _, hc⟩ := h1.at hin
      injection e with e
      subst e
      simp only [List.getElem_map, List.getElem_range, addo, hc, cellNat]
      rw [nth_lt hi']
      simp
    simp only [mvalb, this]
def Gc5I (w0 : World) (x y K : Nat) (wr : World) (A1 : Option Addr) (n1 c1 : Nat) (A2 : Option Addr) (n2 c2 s t : Nat) : Prop :=
  Own .i64 3 w0.heap.size wr A1 n1 c1 (dg D s) ∧ Own .i64 3 w0.heap.size wr A2 n2 c2 (dg D t) ∧ Below w0.heap.size w0 wr ∧ Nat.gcd s t = Nat.gcd x y ∧ n1 ≤ 4 * K ∧ n2 ≤ 4 * K
set_option maxHeartbeats 2000000 in
theorem gcd5_any {v u : Value} {x y L M K : Nat} {w : World} (h : Num w v x L) (h' : Num w u y M) (hLK : L ≤ K) (hMK : M ≤ K) (hK1 : 1 ≤ K) (hK : K ≤ 17179869184) :
    Calls Tryz.prog 46 #[v, u] w (GN w (Nat.gcd x y) K) := by
  have H := Lib.hid h
  have H' := Lib.hid h'
  have C := Lib.hid (ones63_any h h' (by omega) (by omega))
  have HX := Lib.hid h.lt
  have HY := Lib.hid h'.lt
  obtain ⟨_, _, _, _, rfl, _⟩ := id h
  obtain ⟨_, _, _, _, rfl, _⟩ := id h'
  clear h h'
  go_enter Tryz.func46, Tryz.ntmps46
  go_wp2_with fail
  refine C.out.mono ?_
  rintro e wo ⟨p, q, t, rfl, ht, hbo⟩
  have HBo := Lib.hid hbo
  rcases t with _ | _
  · clear ht
    go_wp2
    go_loop [5] (fun sv => sv = .int .u64 (p : Int)) (fun sv => 0)
    case atStart => rfl
    case round =>
      subst hrel
      go_wp2_with fail
      refine (digits5_any (H.out.below hbo) (by omega)).mono ?_
      rintro e w1 ⟨A_da, n_da, c_da, rfl, o_da, hb1⟩
      go_wp2_with fail
      refine (digits5_any ((H'.out.below hbo).below hb1) (by omega)).mono ?_
      rintro e w2 ⟨A_db, n_db, c_db, rfl, o_db, hb2⟩
      have HS : Hid (Gc5I w x y K w2 A_da n_da c_da A_db n_db c_db x y) := ⟨((o_da.mono hbo.size).below hb2), (o_db.mono (bt hbo hb1).size), (bt (bt hbo hb1) hb2), rfl, by rw [← o_da.len]; exact Nat.le_trans (dg_len D_gt (by have := HX.out; rw [W_D, ← Nat.pow_mul] at this; exact this)) (by omega), by rw [← o_db.len]; exact Nat.le_trans (dg_len D_gt (by have := HY.out; rw [W_D, ← Nat.pow_mul] at this; exact this)) (by omega)⟩
      clear o_da o_db
      go_wp2
      go_loopw [8, 9] (fun av bv wr => ∃ (A1 A2 : Option Addr) (n1 c1 n2 c2 s t : Nat), Hid (Gc5I w x y K wr A1 n1 c1 A2 n2 c2 s t) ∧ av = .slice A1 n1 c1 ∧ bv = .slice A2 n2 c2) (fun av bv wr => mvalb D wr bv)
      case atStart => exact ⟨_, _, _, _, _, _, _, _, HS, rfl, rfl⟩
      case round =>
        obtain ⟨A1, A2, n1, c1, n2, c2, s, t, hI, rfl, rfl⟩ := hrel
        obtain ⟨o1, o2, hbw, hg, l1, l2⟩ := hI.out
        have HG := Lib.hid hg
        have HBW := Lib.hid hbw
        rcases Nat.eq_zero_or_pos t with ht | ht
        · have hn0 : n2 = 0 := by rw [← o2.len, ht, dg_zero D_gt]; rfl
          subst hn0
          have C2 := Lib.hid (number5_any (L := 4 * K) (o1.dig (dg_all D_gt s) (dg_val D_gt s) l1) (by omega))
          have HE : Hid (s = Nat.gcd x y) := by show _ = _; rw [← hg, ht, Nat.gcd_zero_right]
          clear hI o1 o2 hbw hg
          go_wp2_with fail
          refine C2.out.mono ?_
          rintro e w3 ⟨A3, n3, c3, rfl, ho3, hb3, hl3⟩
          have HO := Lib.hid (And.intro (ho3.mono HBW.out.size) (bt HBW.out hb3))
          rw [HE.out] at HO
          clear ho3 hb3
          go_wp2
          go_ret
          exact ⟨_, _, _, rfl, HO.out.1, HO.out.2, by omega⟩
        · have hn0 : 0 < n2 := by
            rw [← o2.len]
            exact List.length_pos_iff.2 fun e => by rw [dg_nil_iff D_gt] at e; omega
          have HTB : Hid (nth (dg D t) (n2 - 1) ≠ 0) := by
            have := norm_top (dg_norm (b := D) t) (by rw [o2.len]; exact hn0)
            rw [o2.len] at this
            exact this
          have CD := Lib.hid (divide5_any o1.rd o2.rd (dg_all D_gt s) (dg_all D_gt t) (dg_val D_gt t) hn0 HTB.out (by omega) (by omega))
          rw [dg_val D_gt] at CD
          have HMV : Hid (mvalb D wr (.slice A2 n2 c2) = t) := by show _ = _; rw [mvalb_rd o2.rd, dg_val D_gt]
          have HLT : Hid (s % t < t) := Nat.mod_lt _ ht
          have HO2 := Lib.hid o2
          clear hI o1 o2 hbw hg ht HTB
          go_wp2_with fail
          refine CD.out.mono ?_
          rintro e wd ⟨A_q, n_q, c_q, A_r, n_r, c_r, xq, xr, rfl, o_q, a_q, v_q, l_q, o_r, a_r, v_r, l_r, hbd⟩
          have C3 := Lib.hid (cut5_any o_r.rd (by omega))
          have HOR := Lib.hid (And.intro o_r hbd)
          have HVR : Hid (strip xr = dg D (s % t)) := by show _ = _; rw [strip_eq_dg D_gt a_r, v_r]
          clear o_q a_q v_q l_q o_r a_r v_r hbd
          go_wp2_with fail
          refine C3.out.mono ?_
          rintro e w6 ⟨q6, rfl, hq6, ht6, rfl⟩
          have HF := HOR.out.1.upto hq6
          rw [ht6, HVR.out] at HF
          have HNEW : Hid (Gc5I w x y K wd A2 n2 c2 A_r q6 c_r t (s % t) ∧ mvalb D wd (.slice A_r q6 c_r) = s % t) := by
            refine ⟨⟨HO2.out.below HOR.out.2, HF.mono HBW.out.size, bt HBW.out HOR.out.2, ?_, l2, by omega⟩, ?_⟩
            · rw [← HG.out, Nat.gcd_comm t, ← Nat.gcd_rec, Nat.gcd_comm]
            · rw [mvalb_rd HF.rd, dg_val D_gt]
          clear HF ht6
          go_wp2
          go_roundw
          case rel => exact ⟨_, _, _, _, _, _, _, _, HNEW.out.1, rfl, rfl⟩
          case measure => rw [HNEW.out.2, HMV.out]; exact HLT.out
  · obtain ⟨rfl, rfl, hx, hy⟩ := ht rfl
    clear ht
    go_wp2
    go_loopw [5, 6] (fun sv tv wr => ∃ (s t : Nat), Hid (Nat.gcd s t = Nat.gcd p q ∧ Below wo.heap.size wo wr) ∧ s < 9223372036854775808 ∧ t < 9223372036854775808 ∧ sv = .int .u64 (s : Int) ∧ tv = .int .u64 (t : Int)) (fun _ tv _ => (intOf tv).toNat)
    case atStart => exact ⟨p, q, ⟨rfl, Below.refl _ _⟩, hx, hy, rfl, rfl⟩
    case round =>
      obtain ⟨s, t, hI, hs, ht, rfl, rfl⟩ := hrel
      rcases Nat.eq_zero_or_pos t with h0 | h0
      · subst h0
        have d0 : decide ((0 : Int) < ((0 : Nat) : Int)) = false := by simp
        have HE : Hid (s = Nat.gcd p q) := by show _ = _; rw [← hI.out.1, Nat.gcd_zero_right]
        have hbw := Lib.hid (bt HBo.out hI.out.2)
        go_wp2_with fail
        refine (of5_any (x := s) rfl (by rw [W_eq]; omega)).mono ?_
        rintro e w3 ⟨A3, n3, c3, rfl, ho3, hb3, hl3⟩
        have HO := Lib.hid (And.intro (ho3.mono hbw.out.size) (bt hbw.out hb3))
        rw [HE.out] at HO
        clear ho3 hb3
        go_wp2
        go_ret
        exact ⟨_, _, _, rfl, HO.out.1, HO.out.2, by omega⟩
      · have d0 : decide ((0 : Int) < (t : Int)) = true := by simp; exact h0
        have nz : ((t : Int) == 0) = false := by rw [beq_eq_false_iff_ne]; omega
        have nz2 : (t : Int) ≠ 0 := by omega
        have nz3 : ¬ t = 0 := by omega
        obtain ⟨R, hR⟩ : ∃ R, R = s % t := ⟨_, rfl⟩
        have eR : (s : Int) % (t : Int) = (R : Int) := by rw [hR, Int.natCast_emod]
        have hRl : R < t := by rw [hR]; exact Nat.mod_lt _ h0
        have HR : Hid (Nat.gcd t R = Nat.gcd p q) := by show _ = _; rw [hR, ← hI.out.1, Nat.gcd_comm t, ← Nat.gcd_rec, Nat.gcd_comm]
        have eR2 := lay (show (s : Int).tmod (t : Int) = (R : Int) by rw [Int.tmod_eq_emod_of_nonneg (by omega)]; exact eR)
        have wR : IntKind.u64.wrap (R : Int) = (R : Int) := wrapN _ (by omega)
        have WR := lay wR
        clear hR wR
        go_wp2_with fail
        refine wp_region_grow none [(true, 0), (true, 1), (true, 2), (true, 3), (true, 4), (true, 5)] (by kernel_rfl) (by kernel_rfl) ?_
        repeat (refine ord_pas (by rfl) (fun K hK => ?_); go_simp; refine hK _ _ (fun w' hw' => (by first | (go_simp; done) | (go_simp; intro hh; cases hh))) ?_; clear hK K)
        refine ord_nil ?_
        go_wp2
        go_roundw
        case rel => exact ⟨t, R, ⟨HR.out, bt hI.out.2 (below_drewN _ 1)⟩, ht, by omega, rfl, rfl⟩
        case measure => simp [intOf]; omega

set_option maxHeartbeats 1000000 in
theorem all5_any {A : Option Addr} {n c K : Nat} {xs ls : List Nat} {w : World} (h : Nums w A n c xs ls) (hn : n ≤ 1048576) (hl : ∀ i, nth ls i ≤ K) (hK1 : 1 ≤ K) (hK : K ≤ 268435456) : Calls Tryz.prog 47 #[.slice A n c] w (GN w (gall xs) K) := by
  have H := Lib.hid h
  have HL := Lib.hid hl
  clear h hl
  go_enter Tryz.func47, Tryz.ntmps47
  go_wp2
  go_loopw [3, 4] (fun sv i wr => ∃ (k : Nat) (B : Option Addr) (q e : Nat), Hid (Own .u64 41 w.heap.size wr B q e (dg W (gall (xs.take k))) ∧ Below w.heap.size w wr) ∧ k ≤ n ∧ q ≤ K ∧ sv = .slice B q e ∧ i = .int .i64 k) (fun _ i _ => n - (intOf i).toNat)
  case atStart =>
    refine ⟨0, _, _, _, ⟨?_, belowA _ _⟩, Nat.zero_le _, Nat.zero_le _, rfl, rfl⟩
    rw [List.take_zero]
    show Own _ _ _ _ _ _ _ (dg W 0)
    rw [dg_zero W_gt]
    exact Own.lit (k := .u64) (t := 41) w [] (by simp [maxLen]) (Nat.le_refl _)
  case round =>
    obtain ⟨k, B, q, e, hI, hk, hq, rfl, rfl⟩ := hrel
    by_cases hlt : k < n
    · obtain ⟨b, off, v, ea, hb, hca, hv⟩ := (H.out.below hI.out.2).at hlt
      subst ea
      have HV := Lib.hid hv
      have HT := Lib.hid (gall_take (xs := xs) (k := k) (by rw [H.out.1.1]; exact hlt))
      have HLK := Lib.hid (HL.out k)
      obtain ⟨a1, a2, a3, _, rfl, _⟩ := id hv
      clear hv
      have i1 : (k : Int) < (n : Int) := by omega
      have i0 : (0 : Int) ≤ (k : Int) := by omega
      go_wp2_with fail
      refine (gcd5_any (hI.out.1.num hq) HV.out (Nat.le_refl _) HLK.out hK1 (by omega)).mono ?_
      rintro e w3 ⟨A3, n3, c3, rfl, ho3, hb3, hl3⟩
      go_wp2
      go_roundw
      case rel =>
        refine ⟨k + 1, A3, _, c3, ⟨?_, bt hI.out.2 hb3⟩, by omega, hl3, rfl, by go_num⟩
        rw [HT.out]
        exact ho3.mono hI.out.2.size
      case measure => simp [intOf]; omega
    · obtain rfl : k = n := by omega
      go_wp2
      go_ret
      have ho := hI.out.1
      rw [List.take_of_length_le (by rw [H.out.1.1]; exact Nat.le_refl _)] at ho
      exact ⟨_, _, _, rfl, ho, hI.out.2, hq⟩
set_option maxHeartbeats 1000000 in
theorem lcm5_any {v u : Value} {x y L M : Nat} {w : World} (h : Num w v x L) (h' : Num w u y M) (hL1 : 1 ≤ L) (hM1 : 1 ≤ M) (hL : L ≤ 268435456) (hM : M ≤ 268435456) :
    Calls Tryz.prog 48 #[v, u] w (GN w (Nat.lcm x y) (L + M)) := by
  have H := Lib.hid h
  have H' := Lib.hid h'
  obtain ⟨_, _, _, _, rfl, _⟩ := id h
  obtain ⟨_, _, _, _, rfl, _⟩ := id h'
  clear h h'
  by_cases hz : x = 0 ∨ y = 0
  · have HZ : Hid (Nat.lcm x y = 0) := by show _ = _; rcases hz with rfl | rfl <;> simp
    by_cases hx : x = 0
    · have q0 : decide (x = 0) = true := by simpa using hx
      clear hz hx
      go_enter Tryz.func48, Tryz.ntmps48
      go_wp2_with fail
      refine (zero5_any H.out (by omega)).mono ?_
      rintro e w1 ⟨rfl, hb1⟩
      go_wp2
      go_ret
      refine ⟨_, _, _, rfl, ?_, hb1.trans ((Below.refl _ _).alloc hb1.size _), Nat.zero_le _⟩
      rw [HZ.out, dg_zero W_gt]
      exact (Own.lit (k := .u64) (t := 41) w1 [] (by simp [maxLen]) (Nat.le_refl _)).mono hb1.size
    · have q0 : decide (x = 0) = false := by simpa using hx
      have q1 : decide (y = 0) = true := by simp; omega
      clear hz hx
      go_enter Tryz.func48, Tryz.ntmps48
      go_wp2_with fail
      refine (zero5_any H.out (by omega)).mono ?_
      rintro e w2 ⟨rfl, hb2⟩
      go_wp2_with fail
      refine (zero5_any (H'.out.below hb2) (by omega)).mono ?_
      rintro e w3 ⟨rfl, hb3⟩
      go_wp2
      go_ret
      refine ⟨_, _, _, rfl, ?_, (bt hb2 hb3).trans ((Below.refl _ _).alloc (bt hb2 hb3).size _), Nat.zero_le _⟩
      rw [HZ.out, dg_zero W_gt]
      exact (Own.lit (k := .u64) (t := 41) w3 [] (by simp [maxLen]) (Nat.le_refl _)).mono (bt hb2 hb3).size
  · have q0 : decide (x = 0) = false := by simp; omega
    have q1 : decide (y = 0) = false := by simp; omega
    have HG : Hid (0 < Nat.gcd x y) := Nat.gcd_pos_of_pos_left y (by omega)
    have HE : Hid (x * y / Nat.gcd x y = Nat.lcm x y) := rfl
    clear hz
    go_enter Tryz.func48, Tryz.ntmps48
    go_wp2_with fail
    refine (zero5_any H.out (by omega)).mono ?_
    rintro e w4 ⟨rfl, hb4⟩
    go_wp2_with fail
    refine (zero5_any (H'.out.below hb4) (by omega)).mono ?_
    rintro e w5 ⟨rfl, hb5⟩
    go_wp2_with fail
    refine (times5_any ((H.out.below hb4).below hb5) ((H'.out.below hb4).below hb5) (by omega) (by omega)).mono ?_
    rintro e w6 ⟨A_p, n_p, c_p, rfl, o_p, hb6, l_p⟩
    go_wp2_with fail
    refine (gcd5_any (((H.out.below hb4).below hb5).below hb6) (((H'.out.below hb4).below hb5).below hb6) (K := max L M) (by omega) (by omega) (by omega) (by omega)).mono ?_
    rintro e w7 ⟨A_g, n_g, c_g, rfl, o_g, hb7, l_g⟩
    go_wp2_with fail
    refine (quo5_any ((o_p.num l_p).below hb7) (o_g.num l_g) HG.out (by omega) (by omega) (by omega) (by omega)).mono ?_
    rintro e w8 ⟨A_q, n_q, c_q, A_r, n_r, c_r, rfl, o_q, o_r, hb8, l_q, l_r⟩
    go_wp2
    go_ret
    rw [HE.out] at o_q
    exact ⟨_, _, _, rfl, (o_q.mono (bt (bt (bt hb4 hb5) hb6) hb7).size), (bt (bt (bt (bt hb4 hb5) hb6) hb7) hb8), by omega⟩
/-- the least common multiple of all -/
def llcm (xs : List Nat) : Nat := xs.foldl Nat.lcm 1
theorem llcm_take {xs : List Nat} {k : Nat} (h : k < xs.length) : llcm (xs.take (k + 1)) = Nat.lcm (llcm (xs.take k)) (nth xs k) := by
  rw [List.take_succ_eq_append_getElem h, llcm, List.foldl_append, nth_lt h]; rfl
set_option maxHeartbeats 1000000 in
theorem alllcm5_any {A : Option Addr} {n c : Nat} {xs ls : List Nat} {w : World} (h : Nums w A n c xs ls) (hn : n ≤ 1048576) (hl1 : ∀ i, i < n → 1 ≤ nth ls i) (hl : lsum ls ≤ 67108864) : Calls Tryz.prog 49 #[.slice A n c] w (GN w (llcm xs) (lsum ls + 1)) := by
  have H := Lib.hid h
  have HL := Lib.hid hl1
  have h1W : Hid (1 < W) := W_gt
  clear h hl1
  go_enter Tryz.func49, Tryz.ntmps49
  go_wp2_with fail
  refine (word5_any (w := w) (x := 1) rfl (by omega)).mono ?_
  rintro e w1 ⟨A1, n1, c1, rfl, ho1, hb1, hl1⟩
  have HS : Hid (Own .u64 41 w.heap.size w1 A1 n1 c1 (dg W (llcm (xs.take 0))) ∧ Below w.heap.size w w1) := ⟨ho1, hb1⟩
  clear ho1 hb1
  go_wp2
  go_loopw [3, 4] (fun sv i wr => ∃ (k : Nat) (B : Option Addr) (q e : Nat), Hid (Own .u64 41 w.heap.size wr B q e (dg W (llcm (xs.take k))) ∧ Below w.heap.size w wr) ∧ k ≤ n ∧ q ≤ lsum (ls.take k) + 1 ∧ sv = .slice B q e ∧ i = .int .i64 k) (fun _ i _ => n - (intOf i).toNat)
  case atStart => exact ⟨0, _, _, _, HS, Nat.zero_le _, by omega, rfl, rfl⟩
  case round =>
    obtain ⟨k, B, q, e, hI, hk, hq, rfl, rfl⟩ := hrel
    by_cases hlt : k < n
    · obtain ⟨b, off, v, ea, hb, hca, hv⟩ := (H.out.below hI.out.2).at hlt
      subst ea
      have HV := Lib.hid hv
      have HT := Lib.hid (llcm_take (xs := xs) (k := k) (by rw [H.out.1.1]; exact hlt))
      have hl2 : lsum (ls.take (k + 1)) = lsum (ls.take k) + nth ls k := lsum_take_succ (by rw [H.out.1.2.1]; exact hlt)
      have hl3 := lsum_take_le ls (k + 1)
      have hl4 := HL.out k hlt
      obtain ⟨Q, hQ⟩ : ∃ Q, Q = lsum (ls.take k) + 1 := ⟨_, rfl⟩
      have b1 : Q + nth ls k ≤ 67108865 := by omega
      have b2 : Q + nth ls k ≤ lsum (ls.take (k + 1)) + 1 := by omega
      have b3 : q ≤ Q := by omega
      have b4 : 1 ≤ Q := by omega
      have HB2 := Lib.hid b2
      have HL4 := Lib.hid hl4
      obtain ⟨a1, a2, a3, _, rfl, _⟩ := id hv
      clear hv hl2 hl3 b2 hQ hl4
      have i1 : (k : Int) < (n : Int) := by omega
      have i0 : (0 : Int) ≤ (k : Int) := by omega
      go_wp2_with fail
      refine (lcm5_any (hI.out.1.num b3) HV.out b4 HL4.out (by omega) (by omega)).mono ?_
      rintro e w3 ⟨A3, n3, c3, rfl, ho3, hb3, hl3⟩
      go_wp2
      go_roundw
      case rel =>
        refine ⟨k + 1, A3, _, c3, ⟨?_, bt hI.out.2 hb3⟩, by omega, by have := HB2.out; omega, rfl, by go_num⟩
        rw [HT.out]
        exact ho3.mono hI.out.2.size
      case measure => simp [intOf]; omega
    · obtain rfl : k = n := by omega
      go_wp2
      go_ret
      have ho := hI.out.1
      rw [List.take_of_length_le (by rw [H.out.1.1]; exact Nat.le_refl _)] at ho
      rw [List.take_of_length_le (by rw [H.out.1.2.1]; exact Nat.le_refl _)] at hq
      exact ⟨_, _, _, rfl, ho, hI.out.2, hq⟩
set_option maxHeartbeats 1000000 in
theorem galllcm_any {A : Option Addr} {n c : Nat} {xs ls : List Nat} {w : World} (h : Nums w A n c xs ls) (hn : n ≤ 1048576) (hl1 : ∀ i, i < n → 1 ≤ nth ls i) (hl : lsum ls ≤ 67108864) : Calls Tryz.prog 58 #[.slice A n c] w (GN w (llcm xs) (lsum ls + 1)) := by
  have H := Lib.hid h
  have HL := Lib.hid hl1
  have h1W : Hid (1 < W) := W_gt
  clear h hl1
  go_enter Tryz.func58, Tryz.ntmps58
  go_wp2_with fail
  refine (nof_any (w := w) (x := 1) rfl h1W.out).mono ?_
  rintro e w1 ⟨A1, n1, c1, rfl, ho1, hb1, hl1⟩
  have HS : Hid (Own .u64 41 w.heap.size w1 A1 n1 c1 (dg W (llcm (xs.take 0))) ∧ Below w.heap.size w w1) := ⟨ho1, hb1⟩
  clear ho1 hb1
  go_wp2
  go_loopw [3, 9] (fun sv i wr => ∃ (k : Nat) (B : Option Addr) (q e : Nat), Hid (Own .u64 41 w.heap.size wr B q e (dg W (llcm (xs.take k))) ∧ Below w.heap.size w wr) ∧ k ≤ n ∧ q ≤ lsum (ls.take k) + 1 ∧ sv = .slice B q e ∧ i = .int .i64 k) (fun _ i _ => n - (intOf i).toNat)
  case atStart => exact ⟨0, _, _, _, HS, Nat.zero_le _, by omega, rfl, rfl⟩
  case round =>
    obtain ⟨k, B, q, e, hI, hk, hq, rfl, rfl⟩ := hrel
    by_cases hlt : k < n
    · obtain ⟨b, off, v, ea, hb, hca, hv⟩ := (H.out.below hI.out.2).at hlt
      subst ea
      have HV := Lib.hid hv
      have HT := Lib.hid (llcm_take (xs := xs) (k := k) (by rw [H.out.1.1]; exact hlt))
      have hl2 : lsum (ls.take (k + 1)) = lsum (ls.take k) + nth ls k := lsum_take_succ (by rw [H.out.1.2.1]; exact hlt)
      have hl3 := lsum_take_le ls (k + 1)
      have hl4 := HL.out k hlt
      obtain ⟨Q, hQ⟩ : ∃ Q, Q = lsum (ls.take k) + 1 := ⟨_, rfl⟩
      have b1 : Q + nth ls k ≤ 67108865 := by omega
      have b2 : Q + nth ls k ≤ lsum (ls.take (k + 1)) + 1 := by omega
      have b3 : q ≤ Q := by omega
      have b4 : 1 ≤ Q := by omega
      have HB2 := Lib.hid b2
      have HL4 := Lib.hid hl4
      obtain ⟨a1, a2, a3, _, rfl, _⟩ := id hv
      clear hv hl2 hl3 b2 hQ hl4
      have i1 : (k : Int) < (n : Int) := by omega
      have i0 : (0 : Int) ≤ (k : Int) := by omega
      go_wp2_with fail
      refine (lcm_any (hI.out.1.num b3) HV.out  (by omega) (by omega)).mono ?_
      rintro e w3 ⟨A3, n3, c3, rfl, ho3, hb3, hl3⟩
      go_wp2
      go_roundw
      case rel =>
        refine ⟨k + 1, A3, _, c3, ⟨?_, bt hI.out.2 hb3⟩, by omega, by have := HB2.out; omega, rfl, by go_num⟩
        rw [HT.out]
        exact ho3.mono hI.out.2.size
      case measure => simp [intOf]; omega
    · obtain rfl : k = n := by omega
      go_wp2
      go_ret
      have ho := hI.out.1
      rw [List.take_of_length_le (by rw [H.out.1.1]; exact Nat.le_refl _)] at ho
      rw [List.take_of_length_le (by rw [H.out.1.2.1]; exact Nat.le_refl _)] at hq
      exact ⟨_, _, _, rfl, ho, hI.out.2, hq⟩
set_option maxHeartbeats 400000 in
theorem coprime5_any {v u : Value} {x y L M K : Nat} {w : World} (h : Num w v x L) (h' : Num w u y M) (hLK : L ≤ K) (hMK : M ≤ K) (hK1 : 1 ≤ K) (hK : K ≤ 17179869184) :
    Calls Tryz.prog 51 #[v, u] w (Keeps (.bool (decide (Nat.gcd x y = 1))) w) := by
  have C := Lib.hid (gcd5_any (w := w) h h' hLK hMK hK1 hK)
  obtain ⟨_, _, _, _, rfl, _⟩ := id h
  obtain ⟨_, _, _, _, rfl, _⟩ := id h'
  have HD : decide (dg W (Nat.gcd x y) = dg W 1) = decide (Nat.gcd x y = 1) := by
    rw [Bool.eq_iff_iff, decide_eq_true_iff, decide_eq_true_iff]
    exact ⟨fun e2 => by have := congrArg (val W) e2; rwa [dg_val W_gt, dg_val W_gt] at this, fun e => by rw [e]⟩
  clear h h'
  go_enter Tryz.func51, Tryz.ntmps51
  go_wp2_with fail
  refine (C.out).mono ?_
  rintro e w1 ⟨A_g, n_g, c_g, rfl, o_g, hb1, l_g⟩
  go_wp2_with fail
  refine (word5_any (x := 1) rfl (by omega)).mono ?_
  rintro e w2 ⟨A_o, n_o, c_o, rfl, o_o, hb2, l_o⟩
  have CS := Lib.hid (same5q_any (o_g.rd.below hb2) o_o.rd (by omega))
  rw [HD] at CS
  generalize decide (Nat.gcd x y = 1) = bb at *
  go_wp2_with fail
  refine CS.out.mono ?_
  rintro e ws ⟨rfl, qs, rfl⟩
  go_wp2
  go_ret
  exact ⟨rfl, bt (bt hb1 hb2) (below_drewN _ _)⟩
end Go.Proofs.YtamfhmmcnlollaaGreat
namespace Go.Proofs.YtamfhmmcnlollaaGreat
open Go.RowKit
set_option linter.unusedVariables false

/-- the n-th root, rounded down -/
def nroot (n : Nat) : Nat → Nat
  | 0 => 0
  | a + 1 => if (nroot n a + 1) ^ n ≤ a + 1 then nroot n a + 1 else nroot n a
theorem nroot_spec {n : Nat} (hn : 1 ≤ n) (a : Nat) : nroot n a ^ n ≤ a ∧ a < (nroot n a + 1) ^ n := by
  induction a with
  | zero => exact ⟨by rw [nroot, Nat.zero_pow (by omega)]; exact Nat.le_refl _, by rw [nroot]; simp⟩
  | succ a ih =>
    obtain ⟨h1, h2⟩ := ih
    rw [nroot]
    split
    · rename_i h
      exact ⟨h, Nat.lt_of_le_of_lt (show a + 1 ≤ (nroot n a + 1) ^ n from h2) (Nat.pow_lt_pow_left (by omega) (by omega))⟩
    · rename_i h
      exact ⟨by omega, by omega⟩
theorem nroot_uniq {n a s : Nat} (hn : 1 ≤ n) (h1 : s ^ n ≤ a) (h2 : a < (s + 1) ^ n) : nroot n a = s := by
  obtain ⟨g1, g2⟩ := nroot_spec hn a
  rcases Nat.lt_trichotomy s (nroot n a) with h | h | h
  · have := Nat.pow_le_pow_left (show s + 1 ≤ nroot n a from h) n
    omega
  · exact h.symm
  · have := Nat.pow_le_pow_left (show nroot n a + 1 ≤ s from h) n
    omega
theorem nroot_zero {n : Nat} : nroot n 0 = 0 := rfl
theorem nroot_one {a : Nat} : nroot 1 a = a := nroot_uniq (Nat.le_refl _) (by simp) (by simp)
theorem nroot_big {n a : Nat} (hn : 1 ≤ n) (h0 : 0 < a) (h : nb a ≤ n) : nroot n a = 1 := by
  refine nroot_uniq hn (by rw [Nat.one_pow]; exact h0) ?_
  have h1 := nb_lt a
  exact Nat.lt_of_lt_of_le h1 (Nat.pow_le_pow_right (by omega) h)
theorem nroot_le {n a : Nat} (hn : 1 ≤ n) : nroot n a ≤ a := by
  obtain ⟨g1, g2⟩ := nroot_spec hn a
  rcases Nat.eq_zero_or_pos (nroot n a) with h | h
  · omega
  · have : nroot n a ^ 1 ≤ nroot n a ^ n := Nat.pow_le_pow_right h hn
    rw [Nat.pow_one] at this
    omega
/-- bit by bit: the bits from j on are found -/
def RtI (n a q s j : Nat) : Prop := s ^ n ≤ a ∧ a < (s + 2 ^ j) ^ n ∧ s + 2 ^ j ≤ 2 ^ (q + 1)
theorem RtI.start {n a : Nat} (hn : 1 ≤ n) : RtI n a (nb a / n) 0 (nb a / n + 1) := by
  refine ⟨by rw [Nat.zero_pow (by omega)]; exact Nat.zero_le _, ?_, by omega⟩
  rw [Nat.zero_add, ← Nat.pow_mul]
  refine Nat.lt_of_lt_of_le (nb_lt a) (Nat.pow_le_pow_right (by omega) ?_)
  have := Nat.lt_div_mul_add (a := nb a) (b := n) (by omega)
  rw [Nat.add_mul, Nat.one_mul]
  omega
theorem RtI.up {n a q s j : Nat} (h : RtI n a q s (j + 1)) (hle : (s + 2 ^ j) ^ n ≤ a) : RtI n a q (s + 2 ^ j) j := by
  obtain ⟨h1, h2, h3⟩ := h
  rw [Nat.pow_succ] at h2 h3
  have e : s + 2 ^ j + 2 ^ j = s + 2 ^ j * 2 := by omega
  exact ⟨hle, by rw [e]; exact h2, by rw [e]; exact h3⟩
theorem RtI.stay {n a q s j : Nat} (h : RtI n a q s (j + 1)) (hgt : a < (s + 2 ^ j) ^ n) : RtI n a q s j := by
  obtain ⟨h1, h2, h3⟩ := h
  rw [Nat.pow_succ] at h3
  exact ⟨h1, hgt, by have := Nat.pow_pos (n := j) (show 0 < 2 by omega); omega⟩
theorem RtI.done {n a q s : Nat} (h : RtI n a q s 0) (hn : 1 ≤ n) : s = nroot n a := by
  obtain ⟨h1, h2, h3⟩ := h
  exact (nroot_uniq hn h1 (by simpa using h2)).symm
theorem RtI.next_lt {n a q s j : Nat} (h : RtI n a q s (j + 1)) : s + 2 ^ j < 2 ^ (q + 1) := by
  obtain ⟨h1, h2, h3⟩ := h
  rw [Nat.pow_succ] at h3
  have := Nat.pow_pos (n := j) (show 0 < 2 by omega)
  omega
theorem two_W {x q : Nat} (h : x < 2 ^ (q + 1)) : x < W ^ (q / 64 + 1) := by
  refine Nat.lt_of_lt_of_le h ?_
  rw [show W = 2 ^ 64 from rfl, ← Nat.pow_mul]
  exact Nat.pow_le_pow_right (by omega) (by omega)
/-- so many words take the powers -/
theorem root_len {L n b : Nat} (hn : 1 ≤ n) (hb : b ≤ 64 * L) (hnb : n < b) : (b / n / 64 + 2) * n ≤ 129 * L := by
  have h1 : b / n / 64 * n ≤ L := by
    have h2 : b / n / 64 * 64 ≤ b / n := Nat.div_mul_le_self _ _
    have h3 : b / n * n ≤ b := Nat.div_mul_le_self _ _
    have h4 : b / n / 64 * 64 * n ≤ b / n * n := Nat.mul_le_mul_right _ h2
    rw [Nat.mul_assoc, Nat.mul_comm 64 n, ← Nat.mul_assoc] at h4
    omega
  rw [Nat.add_mul]
  omega
theorem nb_W {x L : Nat} (h : x < W ^ L) : nb x ≤ 64 * L := by
  rcases Nat.eq_zero_or_pos x with h0 | h0
  · subst h0; rw [nb_zero]; exact Nat.zero_le _
  · obtain ⟨h1, h2⟩ := nb_le h0
    rw [show W = 2 ^ 64 from rfl, ← Nat.pow_mul] at h
    have := (Nat.pow_lt_pow_iff_right (show 1 < 2 by omega)).1 (Nat.lt_of_le_of_lt h1 h)
    omega

theorem val_top (n p : Nat) : val W ((List.replicate (n + 1) 0).set n p) = W ^ n * p := by
  have e : (List.replicate (n + 1) 0).set n p = List.replicate n 0 ++ [p] := by
    rw [List.replicate_succ', List.set_append_right _ _ (by simp)]
    simp
  rw [e, val_append, val_replicate, List.length_replicate]
  simp [val]
set_option maxHeartbeats 1000000 in
theorem gtwo_any {i : Nat} {i' : Int} {w : World} (ei : i' = (i : Int)) (hi : i ≤ 4294967296) : Calls Tryz.prog 114 #[.int .i64 i'] w (GV w (2 ^ i) (i / 64 + 1)) := by
  subst ei
  have HE := Lib.hid elN
  have q1 := lay (show (i : Int) / 64 = ((i / 64 : Nat) : Int) by omega)
  have q2 := lay (show (i : Int) % 64 = ((i % 64 : Nat) : Int) by omega)
  have q3 := lay (show (i : Int).tmod 64 = ((i % 64 : Nat) : Int) by rw [Int.tmod_eq_emod_of_nonneg (by omega)]; omega)
  have q4 := lay (show (i : Int).tdiv 64 = ((i / 64 : Nat) : Int) by rw [Int.tdiv_eq_ediv_of_nonneg (by omega)]; omega)
  have hr : i % 64 < 64 := by omega
  have hws : i / 64 ≤ 67108864 := by omega
  have HV : Hid (val W ((List.replicate (i / 64 + 1) 0).set (i / 64) (2 ^ (i % 64))) = 2 ^ i) := by show _ = _; rw [val_top, two_split i, Nat.mul_comm]
  have hp : 2 ^ (i % 64) < W := Nat.pow_lt_pow_right (by omega) hr
  have HA : Hid (All W ((List.replicate (i / 64 + 1) 0).set (i / 64) (2 ^ (i % 64)))) := (All.replicate W_pos).set hp _
  have s1 := lay (show IntKind.u64.wrap ((2 : Int) ^ (i % 64)) = ((2 ^ (i % 64) : Nat) : Int) by
    have e1 : ((2 : Int) ^ (i % 64)) = ((2 ^ (i % 64) : Nat) : Int) := by rw [Int.natCast_pow]; rfl
    rw [e1]; exact wrapN _ (by rw [W_eq] at hp; exact hp))
  have s2 := lay (show IntKind.u64.wrap (1 * (2 : Int) ^ (i % 64)) = ((2 ^ (i % 64) : Nat) : Int) by
    have e1 : ((2 : Int) ^ (i % 64)) = ((2 ^ (i % 64) : Nat) : Int) := by rw [Int.natCast_pow]; rfl
    rw [Int.one_mul, e1]; exact wrapN _ (by rw [W_eq] at hp; exact hp))
  clear hp
  generalize i / 64 = ws at *
  generalize i % 64 = r at *
  generalize 2 ^ i = X at *
  go_enter Tryz.func114, Tryz.ntmps114
  have i0 : (0 : Int) ≤ (ws : Int) := by omega
  have i1 : (ws : Int) < (ws : Int) + 1 := by omega
  go_wp2_with (at_make; refine wpList_mk rfl (.tmp 6) (.tmp 6) rfl HE.out w.heap.size (ws + 1) rfl rfl (by push_cast; rfl) (by push_cast; rfl) (by omega) (Nat.le_refl _) ?_; intro w2 ho2 hg2 hb2; have hfr := ho2.frozen (i := ws); have hcs := ho2.cell (i := ws) (by omega); generalize nth (List.replicate (ws + 1) 0) ws = old at hcs; have HO := Lib.hid (And.intro (ho2.stored (i := ws) (x := 2 ^ r)) (hb2.setCell (p := ⟨w.heap.size, ws, none⟩) (Nat.le_refl _) (.int .u64 ((2 ^ r : Nat) : Int)))); clear ho2 hb2 hg2)
  go_ret
  exact ⟨_, _, _, _, rfl, HO.out.1, HA.out, HV.out, HO.out.2, Nat.le_refl _⟩

theorem and_one64 (i : Nat) (hi : i < 9223372036854775808) : bits BinOp.and IntKind.i64 (i : Int) 1 = ((i % 2 : Nat) : Int) := by
  have t63 : (2 : Int) ^ 63 = 9223372036854775808 := by decide
  have h := bits_mask .i64 63 (by decide) (fun n h0 h1 => by rw [t63] at h1; rw [IntKind.wrap_i64]; omega) 1 (by decide) (i : Int) (by omega) (by rw [t63]; omega)
  have e : ((2 : Int) ^ 1 - 1) = 1 := by decide
  rw [e] at h
  rw [h]
  omega
set_option maxHeartbeats 2000000 in
theorem gpower_any {v : Value} {x L N : Nat} {n' : Int} {w : World} (h : Num w v x L) (hn' : n' = (N : Int)) (hN1 : 1 ≤ N) (hN : N ≤ 4294967296) (hLN : L * N ≤ 34359738368) :
    Calls Tryz.prog 116 #[v, .int .i64 n'] w (GN w (x ^ N) (L * N + 1)) := by
  subst hn'
  have H := Lib.hid h
  have HX := Lib.hid h.lt
  have HLN := Lib.hid hLN
  have HLL : Hid (L ≤ L * N + 1) := by
    show _ ≤ _
    have := Nat.mul_le_mul_left L hN1
    omega
  have h1W : Hid (1 < W) := W_gt
  obtain ⟨A0, n0, c0, xs0, rfl, _⟩ := id h
  clear h hLN
  go_enter Tryz.func116, Tryz.ntmps116
  go_wp2_with fail
  refine (nof_any rfl h1W.out).mono ?_
  rintro e w1 ⟨A_o, n_o, c_o, rfl, o_o, hb1, l_o⟩
  go_wp2
  have HO : Hid (PowI N N 0 1 ∧ Own .u64 41 w.heap.size w1 A_o n_o c_o (dg W (x ^ 0)) ∧ (∃ l, l ≤ L * N + 1 ∧ Num w1 (.slice A0 n0 c0) (x ^ 1) l) ∧ Below w.heap.size w w1) := by
    exact ⟨PowI.start N, by rw [Nat.pow_zero]; exact o_o, ⟨L, HLL.out, by rw [Nat.pow_one]; exact (H.out.below hb1)⟩, hb1⟩
  clear o_o hb1 l_o
  go_loopw [0, 1, 5] (fun bv nv ov wr => ∃ (m a b : Nat) (A1 : Option Addr) (n1 c1 : Nat) (A2 : Option Addr) (n2 c2 : Nat), Hid (PowI N m a b ∧ Own .u64 41 w.heap.size wr A1 n1 c1 (dg W (x ^ a)) ∧ (∃ l, l ≤ L * N + 1 ∧ Num wr (.slice A2 n2 c2) (x ^ b) l) ∧ Below w.heap.size w wr) ∧ m ≤ N ∧ nv = .int .i64 m ∧ ov = .slice A1 n1 c1 ∧ bv = .slice A2 n2 c2) (fun _ nv _ _ => (intOf nv).toNat)
  case atStart => exact ⟨N, 0, 1, _, _, _, _, _, _, HO, Nat.le_refl _, rfl, rfl, rfl⟩
  case round =>
    obtain ⟨m, a, b, A1, n1, c1, A2, n2, c2, hI, hm, rfl, rfl, rfl⟩ := hrel
    have la : Hid (n1 ≤ L * N + 1) := by
      show _ ≤ _
      rw [← hI.out.2.1.len]; exact pow_len HX.out hI.out.1.2.2 rfl
    by_cases h0 : 0 < m
    · obtain ⟨lb0, hlb0, hNb0⟩ := hI.out.2.2.1
      have hNb := Lib.hid (hNb0.mono hlb0)
      clear hlb0 hNb0
      have b1 := lay (show bits BinOp.and IntKind.i64 (m : Int) 1 = (m : Int) % 2 by rw [and_one64 m (by omega)]; omega)
      obtain ⟨mh, hmh⟩ : ∃ mh, mh = m / 2 := ⟨_, rfl⟩
      have b2 := lay (show (m : Int) / 2 = (mh : Int) by omega)
      have HMH := Lib.hid hmh
      have hmh2 : mh < m := by omega
      clear hmh
      by_cases h1 : m % 2 = 1
      · have q1 : ((m : Int) % 2 == 1) = true := by rw [beq_iff_eq]; omega
        have H1 := Lib.hid h1
        clear h1
        by_cases hm1 : m = 1
        · have HM1 := Lib.hid hm1
          have hm3 : m ≤ 1 := by omega
          clear hm1
          go_wp2_with fail
          refine (mul_any (hI.out.2.1.num la.out) hNb.out (by have := HLN.out; omega) (by have := HLN.out; omega)).mono ?_
          rintro e w4 ⟨A3, n3, c3, rfl, ho3, hb3, hl3⟩
          go_wp2
          go_roundw
          case rel =>
            refine ⟨mh, a + b, b, _, _, _, _, _, _, ⟨by have := hI.out.1; rw [HM1.out] at this; rw [HMH.out, HM1.out]; exact this.last, ?_, ⟨_, Nat.le_refl _, hNb.out.below hb3⟩, bt hI.out.2.2.2 hb3⟩, by omega, by go_num, rfl, rfl⟩
            rw [Nat.pow_add]
            exact ho3.mono hI.out.2.2.2.size
          case measure => simp [intOf]; omega
        · have hm2 : 1 < m := by omega
          clear hm1
          go_wp2_with fail
          refine (mul_any (hI.out.2.1.num la.out) hNb.out (by have := HLN.out; omega) (by have := HLN.out; omega)).mono ?_
          rintro e w4 ⟨A3, n3, c3, rfl, ho3, hb3, hl3⟩
          go_wp2_with fail
          refine (square_any (hNb.out.below hb3) (by have := HLN.out; omega)).mono ?_
          rintro e w5 ⟨A4, n4, c4, rfl, ho4, hb4, hl4⟩
          go_wp2
          go_roundw
          case rel =>
            have hp := (hI.out.1.odd1 H1.out).resolve_right (by omega)
            refine ⟨mh, a + b, b + b, _, _, _, _, _, _, ⟨by rw [HMH.out]; exact hp, ?_, ⟨n4, ?_, ?_⟩, bt (bt hI.out.2.2.2 hb3) hb4⟩, by omega, by go_num, rfl, rfl⟩
            · rw [Nat.pow_add]
              exact (ho3.mono hI.out.2.2.2.size).below hb4
            · rw [← ho4.len, ← Nat.pow_add]; exact pow_len HX.out (by have := hp.2.1; omega) rfl
            · rw [Nat.pow_add]
              exact ho4.num (Nat.le_refl _)
          case measure => simp [intOf]; omega
      · have q1 : ((m : Int) % 2 == 1) = false := by rw [beq_eq_false_iff_ne]; omega
        have H1 : Hid (m % 2 = 0) := by show _ = _; omega
        have hm2 : 1 < m := by omega
        clear h1
        go_wp2_with fail
        refine (square_any hNb.out (by have := HLN.out; omega)).mono ?_
        rintro e w5 ⟨A4, n4, c4, rfl, ho4, hb4, hl4⟩
        go_wp2
        go_roundw
        case rel =>
          have hp := hI.out.1.even H1.out h0
          refine ⟨mh, a, b + b, _, _, _, _, _, _, ⟨by rw [HMH.out]; exact hp, hI.out.2.1.below hb4, ⟨n4, ?_, ?_⟩, bt hI.out.2.2.2 hb4⟩, by omega, by go_num, rfl, rfl⟩
          · rw [← ho4.len, ← Nat.pow_add]; exact pow_len HX.out (by have := hp.2.1; omega) rfl
          · rw [Nat.pow_add]
            exact ho4.num (Nat.le_refl _)
        case measure => simp [intOf]; omega
    · obtain rfl : m = 0 := by omega
      have e : x ^ a = x ^ N := by have := hI.out.1.1; rw [show a = N by omega]
      go_wp2
      go_ret
      rw [← e]
      exact ⟨_, _, _, rfl, hI.out.2.1, hI.out.2.2.2, la.out⟩

def GRt (w : World) (n a L : Nat) (e : Ending) (w' : World) : Prop :=
  ∃ A m c, e = .returned (.tuple #[.slice A m c, .bool (decide (nroot n a ^ n = a)), .int .i64 0]) ∧ Own .u64 41 w.heap.size w' A m c (dg W (nroot n a)) ∧ Below w.heap.size w w' ∧ m ≤ L
theorem groot_bad {v : Value} {z : Int} {w : World} (hz : z < 1) : Calls Tryz.prog 54 #[v, .int .i64 z] w (Keeps (.tuple #[.slice none 0 0, .bool false, .int .i64 3]) w) := by
  have d1 : decide (z < 1) = true := by simpa using hz
  go_enter Tryz.func54, Tryz.ntmps54
  go_wp2
  go_ret3
  exact ⟨rfl, Below.refl _ _⟩
theorem groot_zero {v : Value} {x L N : Nat} {w : World} (h : Num w v x L) (hN : 1 ≤ N) (hx : x = 0) (hL : L ≤ 67108864) : Calls Tryz.prog 54 #[v, .int .i64 (N : Int)] w (GRt w N x L) := by
  have C := Lib.hid (nbits_any (w := w) h (by omega))
  obtain ⟨_, _, _, _, rfl, _⟩ := id h
  have hb : nb x = 0 := by rw [hx, nb_zero]
  rw [hb] at C
  have d1 : decide ((N : Int) < 1) = false := by simp; omega
  have HR : Hid (nroot N x = 0 ∧ decide (nroot N x ^ N = x) = true) := by
    subst hx
    exact ⟨nroot_zero, by rw [nroot_zero, Nat.zero_pow (by omega)]; rfl⟩
  clear h hb
  go_enter Tryz.func54, Tryz.ntmps54
  go_wp2_with fail
  refine C.out.mono ?_
  rintro e w' ⟨rfl, rfl⟩
  go_wp2
  go_ret3
  exact ⟨_, _, _, by rw [HR.out.2]; rfl, by rw [HR.out.1]; exact Own.nildg, Below.refl _ _, Nat.zero_le _⟩
theorem groot_one {v : Value} {x L : Nat} {w : World} (h : Num w v x L) (hx : 0 < x) (hL : L ≤ 67108864) : Calls Tryz.prog 54 #[v, .int .i64 1] w (GRt w 1 x L) := by
  have H := Lib.hid h
  obtain ⟨_, _, _, _, rfl, _⟩ := id h
  have q1 : ((nb x : Int) == 0) = false := by rw [beq_eq_false_iff_ne]; have := nb_pos hx; omega
  have HR : Hid (nroot 1 x = x ∧ decide (nroot 1 x ^ 1 = x) = true) := ⟨nroot_one, by rw [nroot_one, Nat.pow_one]; simp⟩
  have C := Lib.hid (nbits_any (w := w) h (by omega))
  generalize nb x = b at *
  clear h hx
  go_enter Tryz.func54, Tryz.ntmps54
  go_wp2_with fail
  refine (C.out).mono ?_
  rintro e w' ⟨rfl, rfl⟩
  go_wp2_with fail
  refine (nnorm_any H.out (by omega)).mono ?_
  rintro e w2 ⟨A_r, n_r, c_r, rfl, o_r, hb2, l_r⟩
  go_wp2
  go_ret3
  exact ⟨_, _, _, by rw [HR.out.2]; rfl, by rw [HR.out.1]; exact o_r, hb2, by omega⟩
theorem groot_few {v : Value} {x L N : Nat} {w : World} (h : Num w v x L) (hx : 0 < x) (hN : 2 ≤ N) (hb : nb x ≤ N) (hL : L ≤ 67108864) : Calls Tryz.prog 54 #[v, .int .i64 (N : Int)] w (GRt w N x L) := by
  obtain ⟨_, _, _, _, rfl, _⟩ := id h
  have q1 : ((nb x : Int) == 0) = false := by rw [beq_eq_false_iff_ne]; have := nb_pos hx; omega
  have q2 : ((N : Int) == 1) = false := by rw [beq_eq_false_iff_ne]; omega
  have d1 : decide ((N : Int) < 1) = false := by simp; omega
  have d2 : decide ((nb x : Int) ≤ (N : Int)) = true := by simp; exact hb
  have d2b : decide (nb x ≤ N) = true := by simp; exact hb
  have HR : Hid (nroot N x = 1 ∧ ((nb x : Int) == 1) = decide (nroot N x ^ N = x)) := by
    have e := nroot_big (by omega) hx hb
    refine ⟨e, ?_⟩
    rw [e, Nat.one_pow]
    rcases (show x = 1 ∨ 2 ≤ x by omega) with h1 | h1
    · rw [h1, nb_one]; rfl
    · have := nb_two h1
      rw [decide_eq_false (by omega), beq_eq_false_iff_ne]
      omega
  have C := Lib.hid (nbits_any (w := w) h (by omega))
  have h1W : Hid (1 < W) := W_gt
  have hL1 : Hid (1 ≤ L) := by
    show _ ≤ _
    have := h.lt
    rcases Nat.eq_zero_or_pos L with h0 | h0
    · rw [h0, Nat.pow_zero] at this; omega
    · exact h0
  generalize nb x = b at *
  clear h hx hb
  go_enter Tryz.func54, Tryz.ntmps54
  go_wp2_with fail
  refine (C.out).mono ?_
  rintro e w' ⟨rfl, rfl⟩
  go_wp2_with fail
  refine (nof_any rfl h1W.out).mono ?_
  rintro e w2 ⟨A_r, n_r, c_r, rfl, o_r, hb2, l_r⟩
  go_wp2
  go_ret3
  exact ⟨_, _, _, by rw [HR.out.2]; rfl, by rw [HR.out.1]; exact o_r, hb2, by have := hL1.out; omega⟩

set_option maxHeartbeats 2000000 in
theorem groot_in {v : Value} {x L N : Nat} {w : World} (h : Num w v x L) (hx : 0 < x) (hN : 2 ≤ N) (hb : N < nb x) (hL : L ≤ 67108864) : Calls Tryz.prog 54 #[v, .int .i64 (N : Int)] w (GRt w N x L) := by
  have H := Lib.hid h
  have hbL : nb x ≤ 64 * L := nb_W h.lt
  have HLen := Lib.hid (root_len (by omega) hbL hb)
  have HLT := Lib.hid h.lt
  have C := Lib.hid (nbits_any (w := w) h (by omega))
  obtain ⟨_, _, _, _, rfl, _⟩ := id h
  have q1 : ((nb x : Int) == 0) = false := by rw [beq_eq_false_iff_ne]; have := nb_pos hx; omega
  have q2 : ((N : Int) == 1) = false := by rw [beq_eq_false_iff_ne]; omega
  have q3 : ((N : Int) == 0) = false := by rw [beq_eq_false_iff_ne]; omega
  have d1 : decide ((N : Int) < 1) = false := by simp; omega
  have d2 : decide ((nb x : Int) ≤ (N : Int)) = false := by simp; omega
  have d2b : decide (nb x ≤ N) = false := by simp; omega
  have HS := Lib.hid (RtI.start (n := N) (a := x) (by omega))
  have hq : nb x / N ≤ nb x := Nat.div_le_self _ _
  have e1 := lay (show (nb x : Int) / (N : Int) = ((nb x / N : Nat) : Int) by rw [Int.natCast_ediv])
  have e2 := lay (show (nb x : Int).tdiv (N : Int) = ((nb x / N : Nat) : Int) by rw [Int.tdiv_eq_ediv_of_nonneg (by omega), Int.natCast_ediv])
  have nz : (N : Int) ≠ 0 := by omega
  have nz3 : ¬ N = 0 := by omega
  have HX0 := Lib.hid hx
  generalize nb x / N = q at *
  generalize nb x = b at *
  clear h hx
  go_enter Tryz.func54, Tryz.ntmps54
  go_wp2_with fail
  refine C.out.mono ?_
  rintro e w' ⟨rfl, rfl⟩
  go_wp2
  go_loopw [8, 9, 10] (fun sv ev iv wr => ∃ (j s : Nat) (A : Option Addr) (m c : Nat) (ex : Bool), Hid (RtI N x q s j ∧ Own .u64 41 w.heap.size wr A m c (dg W s) ∧ Below w.heap.size w wr ∧ ex = decide (s ^ N = x)) ∧ j ≤ q + 1 ∧ sv = .slice A m c ∧ ev = .bool ex ∧ iv = .int .i64 ((j : Int) - 1)) (fun _ _ iv _ => (intOf iv + 1).toNat)
  case atStart =>
    refine ⟨q + 1, 0, _, _, _, false, ⟨HS.out, Own.nildg, Below.refl _ _, ?_⟩, Nat.le_refl _, rfl, rfl, by go_num⟩
    rw [Nat.zero_pow (by omega), decide_eq_false (by have := HX0.out; omega)]
  case round =>
    obtain ⟨j, s, A, m, c, ex, hI, hj, rfl, rfl, rfl⟩ := hrel
    by_cases h0 : j = 0
    · subst h0
      have HF := Lib.hid (hI.out.1.done (by omega))
      have d3 : decide ((0 : Int) ≤ ((0 : Nat) : Int) - 1) = false := by simp
      have lm : Hid (m ≤ L) := by
        show _ ≤ _
        rw [← hI.out.2.1.len, HF.out]
        exact dgl (Nat.lt_of_le_of_lt (nroot_le (by omega)) HLT.out)
      go_wp2
      go_ret3
      have ho := hI.out.2.1
      rw [HF.out] at ho
      refine ⟨_, _, _, ?_, ho, hI.out.2.2.1, lm.out⟩
      rw [hI.out.2.2.2, HF.out]
      rfl
    · obtain ⟨k, rfl⟩ : ∃ k, j = k + 1 := ⟨j - 1, by omega⟩
      have ei : ((k + 1 : Nat) : Int) - 1 = (k : Int) := by omega
      rw [ei]
      have d3 : decide ((0 : Int) ≤ (k : Int)) = true := by simp
      have HTL := Lib.hid (two_W hI.out.1.next_lt)
      have lm : m ≤ L := by
        rw [← hI.out.2.1.len]
        refine dgl (Nat.lt_of_le_of_lt ?_ HLT.out)
        have h1 := hI.out.1.1
        rcases Nat.eq_zero_or_pos s with h2 | h2
        · omega
        · have : s ^ 1 ≤ s ^ N := Nat.pow_le_pow_right h2 (by omega)
          rw [Nat.pow_one] at this
          omega
      clear h0 ei
      obtain ⟨wo, rfl⟩ : ∃ wo : World, wo = wr := ⟨_, rfl⟩
      go_wp2_with fail
      refine (gtwo_any (i := k) rfl (by omega)).mono ?_
      rintro e w1 ⟨A_t, n_t, c_t, xs_t, rfl, o_t, a_t, v_t, hb1, l_t⟩
      have V_t := Lib.hid v_t
      clear v_t
      go_wp2_with fail
      refine (nadd_any ((hI.out.2.1.num lm).below hb1) (o_t.numv a_t V_t.out l_t) (by omega) (by omega)).mono ?_
      rintro e w2 ⟨A_u, n_u, c_u, rfl, o_u, hb2, l_u⟩
      have lu : Hid (n_u ≤ q / 64 + 2) := by show _ ≤ _; rw [← o_u.len]; have := dgl HTL.out; omega
      go_wp2_with fail
      refine (gpower_any (o_u.num (L := q / 64 + 2) lu.out) rfl (by omega) (by omega) (by have := HLen.out; omega)).mono ?_
      rintro e w3 ⟨A_p, n_p, c_p, rfl, o_p, hb3, l_p⟩
      have CC := Lib.hid (ncmp_any (w := w3) (o_p.num l_p) ((((H.out.below hI.out.2.2.1).below hb1).below hb2).below hb3) (by have := HLen.out; omega) (by omega))
      have HU := Lib.hid (And.intro (((o_u.mono hb1.size).below hb3).mono hI.out.2.2.1.size) (bt hI.out.2.2.1 (bt (bt hb1 hb2) hb3)))
      have HK := Lib.hid (And.intro (hI.out.2.1.below (bt (bt hb1 hb2) hb3)) (bt hI.out.2.2.1 (bt (bt hb1 hb2) hb3)))
      rcases Nat.lt_trichotomy ((s + 2 ^ k) ^ N) x with hc | hc | hc
      · have ec : cmpN ((s + 2 ^ k) ^ N) x = -1 := by rw [cmpN, if_pos hc]
        rw [ec] at CC
        have HNEW : Hid (RtI N x q (s + 2 ^ k) k ∧ Own .u64 41 w.heap.size _ A_u n_u c_u (dg W (s + 2 ^ k)) ∧ Below w.heap.size w _ ∧ ex = decide ((s + 2 ^ k) ^ N = x)) := ⟨hI.out.1.up (Nat.le_of_lt hc), HU.out.1, HU.out.2, by
          rw [hI.out.2.2.2, decide_eq_false (Nat.ne_of_lt hc), decide_eq_false]
          have : s ^ N ≤ (s + 2 ^ k) ^ N := Nat.pow_le_pow_left (Nat.le_add_right _ _) _
          omega⟩
        clear hc ec
        go_wp2_with fail
        refine CC.out.mono ?_
        rintro e w' ⟨rfl, rfl⟩
        go_wp2
        go_roundw
        case rel => exact ⟨k, _, _, _, _, _, HNEW, by omega, rfl, rfl, rfl⟩
        case measure => simp [intOf]
      · have ec : cmpN ((s + 2 ^ k) ^ N) x = 0 := by rw [cmpN, if_neg (by omega), if_neg (by omega)]
        rw [ec] at CC
        have HNEW : Hid (RtI N x q (s + 2 ^ k) k ∧ Own .u64 41 w.heap.size _ A_u n_u c_u (dg W (s + 2 ^ k)) ∧ Below w.heap.size w _ ∧ true = decide ((s + 2 ^ k) ^ N = x)) := ⟨hI.out.1.up (Nat.le_of_eq hc), HU.out.1, HU.out.2, by rw [decide_eq_true hc]⟩
        clear hc ec
        go_wp2_with fail
        refine CC.out.mono ?_
        rintro e w' ⟨rfl, rfl⟩
        go_wp2
        go_roundw
        case rel => exact ⟨k, _, _, _, _, _, HNEW, by omega, rfl, rfl, rfl⟩
        case measure => simp [intOf]
      · have ec : cmpN ((s + 2 ^ k) ^ N) x = 1 := by rw [cmpN, if_neg (by omega), if_pos hc]
        rw [ec] at CC
        have HNEW : Hid (RtI N x q s k ∧ Own .u64 41 w.heap.size _ A m c (dg W s) ∧ Below w.heap.size w _ ∧ ex = decide (s ^ N = x)) := ⟨hI.out.1.stay hc, HK.out.1, HK.out.2, hI.out.2.2.2⟩
        clear hc ec
        go_wp2_with fail
        refine CC.out.mono ?_
        rintro e w' ⟨rfl, rfl⟩
        go_wp2
        go_roundw
        case rel => exact ⟨k, _, _, _, _, _, HNEW, by omega, rfl, rfl, rfl⟩
        case measure => simp [intOf]
theorem groot_any {v : Value} {x L N : Nat} {n' : Int} {w : World} (h : Num w v x L) (en : n' = (N : Int)) (hN : 1 ≤ N) (hL : L ≤ 67108864) : Calls Tryz.prog 54 #[v, .int .i64 n'] w (GRt w N x L) := by
  subst en
  rcases Nat.eq_zero_or_pos x with hx | hx
  · exact groot_zero h hN hx hL
  · rcases (show N = 1 ∨ 2 ≤ N by omega) with h1 | h1
    · subst h1; exact groot_one h hx hL
    · rcases Nat.lt_or_ge N (nb x) with h2 | h2
      · exact groot_in h hx h1 h2 hL
      · exact groot_few h hx h1 h2 hL
theorem gsqrt_any {v : Value} {x L : Nat} {w : World} (h : Num w v x L) (hL : L ≤ 67108864) : Calls Tryz.prog 36 #[v] w (GN2 w (nroot 2 x) L (x - nroot 2 x * nroot 2 x) L) := by
  have C := Lib.hid (groot_any (N := 2) (n' := 2) h rfl (by omega) hL)
  have HLE : Hid (nroot 2 x * nroot 2 x ≤ x) := by
    show _ ≤ _
    have := (nroot_spec (n := 2) (by omega) x).1
    rwa [Nat.pow_two] at this
  have H := Lib.hid h
  obtain ⟨_, _, _, _, rfl, _⟩ := id h
  clear h
  go_enter Tryz.func36, Tryz.ntmps36
  go_wp2_with fail
  refine C.out.mono ?_
  rintro e ws ⟨A_s, n_s, c_s, rfl, o_s, hbs, l_s⟩
  go_wp2_with fail
  refine (square_any (o_s.num l_s) (by omega)).mono ?_
  rintro e w1 ⟨A_p, n_p, c_p, rfl, o_p, hb1, l_p⟩
  go_wp2_with fail
  refine (gsub_any ((H.out.below hbs).below hb1) (o_p.num l_p) HLE.out (by omega) (by omega)).mono ?_
  rintro e w2 ⟨A_r, n_r, c_r, rfl, o_r, hb2, l_r⟩
  go_wp2
  go_ret2
  exact ⟨_, _, _, _, _, _, rfl, ((o_s.below hb1).below hb2), (o_r.mono (bt hbs hb1).size), (bt (bt hbs hb1) hb2), by omega, by omega⟩
end Go.Proofs.YtamfhmmcnlollaaGreat
namespace Go.Proofs.YtamfhmmcnlollaaGreat
open Go.RowKit
set_option linter.unusedVariables false

section
variable {P : Program} {ops : Array Oper} {md : Region.Mode} {Q : Exit → Act → World → Prop} {st : List Nat}

/-- whatever order is picked, old memory stays but for what the stores do -/
def wpAnyS (P : Program) (md : Region.Mode) (ops : Array Oper) (Q : Exit → Act → World → Prop) (st : List Nat) : Nat → Array Bool → Act → World → Prop
  | 0, listed, a, w => Region.ready md ops listed = [] ∧ Q .normal a w
  | fuel + 1, listed, a, w =>
    (Region.ready md ops listed = [] → Q .normal a w) ∧
    ∀ i ∈ Region.ready md ops listed, wpOp P ops Q i (fun a' w' => (i ∈ st ∨ Grow none w w') ∧ wpAnyS P md ops Q st fuel (listed.setIfInBounds i true) a' w') a w
theorem wpAny_of_S : ∀ (fuel : Nat) (listed : Array Bool) (a : Act) (w : World), wpAnyS P md ops Q st fuel listed a w → wpAny P md ops Q fuel listed a w
  | 0, _, _, _, h => h
  | fuel + 1, _, _, _, h => ⟨h.1, fun i hi => wpOp_mono (fun a' w' h' => wpAny_of_S fuel _ a' w' h'.2) (h.2 i hi)⟩

/-- does number j wait for number i? -/
def waits (md : Region.Mode) (ops : Array Oper) (j i : Nat) : Bool :=
  match ops[j]? with
  | some o => o.after.any fun e => Region.binds md e && decide (e.on = i)
  | none => true

theorem wpAnyS_first {i : Nat} {oi : Oper} {v : Value} (hi : ops[i]? = some oi) (hsel : ∀ (j : Nat) (o : Oper) cs b, ops[j]? = some o → o.op ≠ .select cs b)
    (hQ : ∀ c a w, Q (.panic c) (a.put oi.dst v) w → Q (.panic c) a w) :
    ∀ (fuel : Nat) (listed : Array Bool) (a : Act) (w : World),
      (∀ j oj, ops[j]? = some oj → j ≠ i → listed.getD j true = false → (∀ e ∈ oj.after, Region.binds md e = true → e.on ≠ i) → oi.apart ops oj = true) →
      (∀ j ∈ st, listed.getD j true = true ∨ waits md ops j i = true) →
      i ∈ Region.ready md ops listed → YieldsIf P ops (Grow none w) oi v a →
      wpAnyS P md ops Q st fuel (listed.setIfInBounds i true) (a.put oi.dst v) w → wpAnyS P md ops Q st (fuel + 1) listed a w := by
  intro fuel
  induction fuel with
  | zero =>
    intro listed a w _ _ hr hy H
    refine ⟨fun h => (by rw [h] at hr; cases hr), fun j hj => ?_⟩
    by_cases hji : j = i
    · subst hji; exact hy.wpOp hi (Grow.refl none w) ⟨.inr (Grow.refl none w), H⟩
    · have := ready_mono hj hji
      rw [H.1] at this
      cases this
  | succ fuel ih =>
    intro listed a w hfree hst hr hy H
    refine ⟨fun h => (by rw [h] at hr; cases hr), fun j hj => ?_⟩
    by_cases hji : j = i
    · subst hji; exact hy.wpOp hi (Grow.refl none w) ⟨.inr (Grow.refl none w), H⟩
    · have h1 := H.2 j (ready_mono hj hji)
      obtain ⟨hjun, oj, hoj, hall⟩ := mem_ready.1 hj
      have hnot : ∀ e ∈ oj.after, Region.binds md e = true → e.on ≠ i := fun e he hb heq => by
        have h1 := hall e he hb
        have h0 := (mem_ready.1 hr).1
        rw [heq] at h1
        rcases Nat.lt_or_ge i listed.size with h' | h'
        · simp [h'] at h0 h1; rw [h0] at h1; cases h1
        · simp [Array.getElem?_eq_none h'] at h1
      have hns : j ∉ st := fun hjs => by
        rcases hst j hjs with h2 | h2
        · rw [hjun] at h2; cases h2
        · unfold waits at h2
          rw [hoj] at h2
          simp only [Array.any_eq_true, Bool.and_eq_true, decide_eq_true_eq] at h2
          obtain ⟨k, hk, hb, he⟩ := h2
          exact hnot _ (Array.getElem_mem hk) hb he
      have h2 := wpOp_putIf hoj (hfree j oj hoj hji hjun hnot) (fun cs b => hsel i oi cs b hi) (fun cs b => hsel j oj cs b hoj) hQ hy h1
      have hfree' : ∀ k ok, ops[k]? = some ok → k ≠ i → (listed.setIfInBounds j true).getD k true = false →
          (∀ e ∈ ok.after, Region.binds md e = true → e.on ≠ i) → oi.apart ops ok = true := fun k ok hk hki hun hno => by
        refine hfree k ok hk hki ?_ hno
        by_cases hjk : j = k
        · subst hjk; exact hjun
        · rw [getD_set_ne true hjk] at hun; exact hun
      have hst' : ∀ k ∈ st, (listed.setIfInBounds j true).getD k true = true ∨ waits md ops k i = true := fun k hk => by
        rcases hst k hk with h3 | h3
        · left
          by_cases hjk : j = k
          · subst hjk; exact absurd hk hns
          · rw [getD_set_ne true hjk]; exact h3
        · exact .inr h3
      refine wpOp_mono (fun a' w' h3 => ?_) h2
      have hg : Grow none w w' := h3.2.1.resolve_left hns
      refine ⟨h3.2.1, ih (listed.setIfInBounds j true) a' w' hfree' hst' (ready_mono hr (Ne.symm hji)) (yieldsIf_weak (fun u hu => Grow.trans none _ _ _ hg hu) h3.1) ?_⟩
      rw [Array.setIfInBounds_comm _ _ hji]
      exact h3.2.2

theorem wpAnyS_firstT {i : Nat} {oi : Oper} {v : Value} (hi : ops[i]? = some oi) (hsel : ∀ (j : Nat) (o : Oper) cs b, ops[j]? = some o → o.op ≠ .select cs b)
    (hQ : ∀ c a w, Q (.panic c) (a.put oi.dst v) w → Q (.panic c) a w) :
    ∀ (fuel : Nat) (listed : Array Bool) (a : Act) (w : World),
      (∀ j oj, ops[j]? = some oj → j ≠ i → listed.getD j true = false → (∀ e ∈ oj.after, Region.binds md e = true → e.on ≠ i) → oi.apart ops oj = true) →
      i ∈ Region.ready md ops listed → YieldsIf P ops (fun _ => True) oi v a →
      wpAnyS P md ops Q st fuel (listed.setIfInBounds i true) (a.put oi.dst v) w → wpAnyS P md ops Q st (fuel + 1) listed a w := by
  intro fuel
  induction fuel with
  | zero =>
    intro listed a w _ hr hy H
    refine ⟨fun h => (by rw [h] at hr; cases hr), fun j hj => ?_⟩
    by_cases hji : j = i
    · subst hji; exact hy.wpOp hi trivial ⟨.inr (Grow.refl none w), H⟩
    · have := ready_mono hj hji
      rw [H.1] at this
      cases this
  | succ fuel ih =>
    intro listed a w hfree hr hy H
    refine ⟨fun h => (by rw [h] at hr; cases hr), fun j hj => ?_⟩
    by_cases hji : j = i
    · subst hji; exact hy.wpOp hi trivial ⟨.inr (Grow.refl none w), H⟩
    · have h1 := H.2 j (ready_mono hj hji)
      obtain ⟨hjun, oj, hoj, hall⟩ := mem_ready.1 hj
      have hnot : ∀ e ∈ oj.after, Region.binds md e = true → e.on ≠ i := fun e he hb heq => by
        have h1 := hall e he hb
        have h0 := (mem_ready.1 hr).1
        rw [heq] at h1
        rcases Nat.lt_or_ge i listed.size with h' | h'
        · simp [h'] at h0 h1; rw [h0] at h1; cases h1
        · simp [Array.getElem?_eq_none h'] at h1
      have h2 := wpOp_putIf hoj (hfree j oj hoj hji hjun hnot) (fun cs b => hsel i oi cs b hi) (fun cs b => hsel j oj cs b hoj) hQ hy h1
      have hfree' : ∀ k ok, ops[k]? = some ok → k ≠ i → (listed.setIfInBounds j true).getD k true = false →
          (∀ e ∈ ok.after, Region.binds md e = true → e.on ≠ i) → oi.apart ops ok = true := fun k ok hk hki hun hno => by
        refine hfree k ok hk hki ?_ hno
        by_cases hjk : j = k
        · subst hjk; exact hjun
        · rw [getD_set_ne true hjk] at hun; exact hun
      refine wpOp_mono (fun a' w' h3 => ?_) h2
      refine ⟨h3.2.1, ih (listed.setIfInBounds j true) a' w' hfree' (ready_mono hr (Ne.symm hji)) h3.1 ?_⟩
      rw [Array.setIfInBounds_comm _ _ hji]
      exact h3.2.2

/-- an order: 0 taken first (pure), 1 alone (old memory stays), 2 a store, alone, 3 taken first, whatever the world -/
def sordB (md : Region.Mode) (ops : Array Oper) (st : List Nat) : List (Nat × Nat) → Array Bool → Bool
  | [], listed => (Region.ready md ops listed).isEmpty
  | (0, i) :: rest, listed => (Region.ready md ops listed).contains i && Region.free md ops listed i && st.all (fun j => listed.getD j true || waits md ops j i) && sordB md ops st rest (listed.setIfInBounds i true)
  | (1, i) :: rest, listed => decide (Region.ready md ops listed = [i]) && sordB md ops st rest (listed.setIfInBounds i true)
  | (3, i) :: rest, listed => (Region.ready md ops listed).contains i && Region.free md ops listed i && sordB md ops st rest (listed.setIfInBounds i true)
  | (_, i) :: rest, listed => st.contains i && decide (Region.ready md ops listed = [i]) && sordB md ops st rest (listed.setIfInBounds i true)
def wpS (P : Program) (ops : Array Oper) (Q : Exit → Act → World → Prop) : List (Nat × Nat) → Act → World → Prop
  | [], a, w => Q .normal a w
  | (0, i) :: rest, a, w => ∃ o, ops[i]? = some o ∧ ∃ v, YieldsIf P ops (Grow none w) o v a ∧ wpS P ops Q rest (a.put o.dst v) w
  | (1, i) :: rest, a, w => wpOp P ops (onlyN Q) i (fun a' w' => Grow none w w' ∧ wpS P ops Q rest a' w') a w
  | (3, i) :: rest, a, w => ∃ o, ops[i]? = some o ∧ ∃ v, YieldsIf P ops (fun _ => True) o v a ∧ wpS P ops Q rest (a.put o.dst v) w
  | (_, i) :: rest, a, w => wpOp P ops (onlyN Q) i (fun a' w' => wpS P ops Q rest a' w') a w
theorem wpAnyS_of_ord (hs : Region.noSelect ops = true) :
    ∀ (l : List (Nat × Nat)) (listed : Array Bool) (a : Act) (w : World), sordB md ops st l listed = true → wpS P ops Q l a w → wpAnyS P md ops (onlyN Q) st l.length listed a w
  | [], listed, a, w, hB, h => ⟨by simpa [sordB] using hB, rfl, h⟩
  | (0, i) :: rest, listed, a, w, hB, h => by
    simp only [sordB, Bool.and_eq_true, List.all_eq_true, Bool.or_eq_true] at hB
    obtain ⟨⟨⟨hr, hf⟩, hst⟩, hB'⟩ := hB
    obtain ⟨o, ho, v, hy, h'⟩ := h
    exact wpAnyS_first ho (Region.noSelect_spec hs) (fun c a w hh => absurd hh.1 (by simp)) rest.length listed a w (Region.free_spec ho hf) hst (by simpa using hr) hy
      (wpAnyS_of_ord hs rest _ _ _ hB' h')
  | (1, i) :: rest, listed, a, w, hB, h => by
    simp only [sordB, Bool.and_eq_true, decide_eq_true_eq] at hB
    refine ⟨fun h0 => (by rw [hB.1] at h0; cases h0), fun j hj => ?_⟩
    rw [hB.1] at hj
    have hji : j = i := by simpa using hj
    subst hji
    exact wpOp_mono (fun a' w' h' => ⟨.inr h'.1, wpAnyS_of_ord hs rest _ _ _ hB.2 h'.2⟩) h
  | (3, i) :: rest, listed, a, w, hB, h => by
    simp only [sordB, Bool.and_eq_true] at hB
    obtain ⟨⟨hr, hf⟩, hB'⟩ := hB
    obtain ⟨o, ho, v, hy, h'⟩ := h
    exact wpAnyS_firstT ho (Region.noSelect_spec hs) (fun c a w hh => absurd hh.1 (by simp)) rest.length listed a w (Region.free_spec ho hf) (by simpa using hr) hy
      (wpAnyS_of_ord hs rest _ _ _ hB' h')
  | (2, i) :: rest, listed, a, w, hB, h => by
    simp only [sordB, Bool.and_eq_true, decide_eq_true_eq] at hB
    refine ⟨fun h0 => (by rw [hB.1.2] at h0; cases h0), fun j hj => ?_⟩
    rw [hB.1.2] at hj
    have hji : j = i := by simpa using hj
    subst hji
    exact wpOp_mono (fun a' w' h' => ⟨.inl (by simpa using hB.1.1), wpAnyS_of_ord hs rest _ _ _ hB.2 h'⟩) h
  | (k + 4, i) :: rest, listed, a, w, hB, h => by
    simp only [sordB, Bool.and_eq_true, decide_eq_true_eq] at hB
    refine ⟨fun h0 => (by rw [hB.1.2] at h0; cases h0), fun j hj => ?_⟩
    rw [hB.1.2] at hj
    have hji : j = i := by simpa using hj
    subst hji
    exact wpOp_mono (fun a' w' h' => ⟨.inl (by simpa using hB.1.1), wpAnyS_of_ord hs rest _ _ _ hB.2 h'⟩) h
def storesOf (l : List (Nat × Nat)) : List Nat := (l.filter fun x => decide (x.1 = 2)).map (·.2)
theorem wp_region_stores {id : Nat} {a : Act} {w : World} (l : List (Nat × Nat)) (hm : P.follows .mixedOrders = true)
    (hB : (Region.noSelect ops && decide (l.length = ops.size) && sordB .any ops (storesOf l) l (Array.replicate ops.size false)) = true)
    (h : wpS P ops Q l a w.drew) : (Code.region id ops true).wp P Q a w := by
  simp only [Bool.and_eq_true, decide_eq_true_eq] at hB
  obtain ⟨⟨hs, hl⟩, hB'⟩ := hB
  refine wp_region_any hm (wpAny_onlyN _ _ _ _ (wpAny_of_S (st := storesOf l) _ _ _ _ ?_))
  rw [← hl]
  exact wpAnyS_of_ord hs l _ a _ (by rw [hl]; exact hB') h
end
section
variable {P : Program} {l : List Oper} {Q : Exit → Act → World → Prop}
theorem sord_pas {i : Nat} {o : Oper} {rest : List (Nat × Nat)} {a : Act} {w : World} (ho' : opAt l i = some o)
    (h : ∀ K : Value → Act → Prop, (∀ v a', (∀ w', Grow none w w' → if Region.wanted o (yielded l.toArray a.tmps) then pasOf (· = v) w' ((execOp a.eval o).run P w') else undef = v) → wpS P l.toArray Q rest a' w → K v a') →
      if Region.wanted o (yielded l.toArray a.tmps) then pasOf (fun v => K v (a.put o.dst v)) w ((execOp a.eval o).run P w) else K undef (a.put o.dst undef)) : wpS P l.toArray Q ((0, i) :: rest) a w := by
  have ho : l.toArray[i]? = some o := (opAt_eq l i).trans ho'
  refine ⟨o, ho, ?_⟩
  cases hw : Region.wanted o (yielded l.toArray a.tmps) with
  | true =>
    simp only [hw, if_true] at h
    have h1 := h (fun v a' => (∀ w', Grow none w w' → pasOf (· = v) w' ((execOp a.eval o).run P w')) ∧ wpS P l.toArray Q rest a' w) (fun v a' h2 h3 => ⟨h2, h3⟩)
    generalize (execOp a.eval o).run P w = r at h1
    cases r with
    | ok n w' =>
      cases n <;> simp only [pasOf] at h1
      case value v => exact ⟨v, .inl ⟨hw, fun w' hr => pasOf_eq (h1.2.1 w' hr)⟩, h1.2.2⟩
    | halt x w' => exact h1.elim
  | false =>
    simp only [hw] at h
    have h1 := h (fun v a' => wpS P l.toArray Q rest a' w ∧ v = undef) (fun v a' h2 h3 => ⟨h3, (h2 w (Grow.refl none w)).symm⟩)
    exact ⟨undef, .inr ⟨hw, rfl⟩, h1.1⟩
theorem sord_pasT {i : Nat} {o : Oper} {rest : List (Nat × Nat)} {a : Act} {w : World} (ho' : opAt l i = some o)
    (h : ∀ K : Value → Act → Prop, (∀ v a', (∀ w', True → if Region.wanted o (yielded l.toArray a.tmps) then pasOf (· = v) w' ((execOp a.eval o).run P w') else undef = v) → wpS P l.toArray Q rest a' w → K v a') →
      if Region.wanted o (yielded l.toArray a.tmps) then pasOf (fun v => K v (a.put o.dst v)) w ((execOp a.eval o).run P w) else K undef (a.put o.dst undef)) : wpS P l.toArray Q ((3, i) :: rest) a w := by
  have ho : l.toArray[i]? = some o := (opAt_eq l i).trans ho'
  refine ⟨o, ho, ?_⟩
  cases hw : Region.wanted o (yielded l.toArray a.tmps) with
  | true =>
    simp only [hw, if_true] at h
    have h1 := h (fun v a' => (∀ w', True → pasOf (· = v) w' ((execOp a.eval o).run P w')) ∧ wpS P l.toArray Q rest a' w) (fun v a' h2 h3 => ⟨h2, h3⟩)
    generalize (execOp a.eval o).run P w = r at h1
    cases r with
    | ok n w' =>
      cases n <;> simp only [pasOf] at h1
      case value v => exact ⟨v, .inl ⟨hw, fun w' hr => pasOf_eq (h1.2.1 w' hr)⟩, h1.2.2⟩
    | halt x w' => exact h1.elim
  | false =>
    simp only [hw] at h
    have h1 := h (fun v a' => wpS P l.toArray Q rest a' w ∧ v = undef) (fun v a' h2 h3 => ⟨h3, (h2 w trivial).symm⟩)
    exact ⟨undef, .inr ⟨hw, rfl⟩, h1.1⟩
theorem sord_norm {rest : List (Nat × Nat)} {a : Act} {w : World} (h : ∀ K : Act → Prop, (∀ a', wpS P l.toArray Q rest a' w → K a') → K a) : wpS P l.toArray Q rest a w := h _ (fun _ h => h)
theorem sord_nil {a : Act} {w : World} (h : Q .normal a w) : wpS P l.toArray Q [] a w := h
theorem sord_act {i : Nat} {o : Oper} {rest : List (Nat × Nat)} {a : Act} {w : World} (ho' : opAt l i = some o)
    (h : ∀ K : Act → World → Prop, (∀ a' w', Grow none w w' ∧ wpS P l.toArray Q rest a' w' → K a' w') → if Region.wanted o (yielded l.toArray a.tmps) then o.wp P a w K (onlyN Q) else K (a.put o.dst undef) w) :
    wpS P l.toArray Q ((1, i) :: rest) a w := by
  have ho : l.toArray[i]? = some o := (opAt_eq l i).trans ho'
  have h1 := h _ (fun _ _ h => h)
  unfold wpS wpOp
  simp only [ho]
  split
  · rename_i hw; simp only [hw, if_true] at h1; exact .inl h1
  · rename_i hw; simp only [hw] at h1; exact h1
theorem sord_store {i : Nat} {o : Oper} {rest : List (Nat × Nat)} {a : Act} {w : World} (ho' : opAt l i = some o)
    (h : ∀ K : Act → World → Prop, (∀ a' w', wpS P l.toArray Q rest a' w' → K a' w') → if Region.wanted o (yielded l.toArray a.tmps) then o.wp P a w K (onlyN Q) else K (a.put o.dst undef) w) :
    wpS P l.toArray Q ((2, i) :: rest) a w := by
  have ho : l.toArray[i]? = some o := (opAt_eq l i).trans ho'
  have h1 := h _ (fun _ _ h => h)
  unfold wpS wpOp
  simp only [ho]
  split
  · rename_i hw; simp only [hw, if_true] at h1; exact .inl h1
  · rename_i hw; simp only [hw] at h1; exact h1
theorem sord_call {i : Nat} {o : Oper} {rest : List (Nat × Nat)} {a : Act} {w : World} (ho' : opAt l i = some o)
    (h : ∀ K : FuncId → Array Value → Prop, (∀ f args, Calls P f args w (fun e w' => ∃ v, e = .returned v ∧ Grow none w w' ∧ wpS P l.toArray Q rest (a.put o.dst v) w') → K f args) →
      Region.wanted o (yielded l.toArray a.tmps) = true ∧ callOf K w ((execOp a.eval o).run P w)) :
    wpS P l.toArray Q ((1, i) :: rest) a w := by
  have h1 := h (fun f args => Calls P f args w (fun e w' => ∃ v, e = .returned v ∧ Grow none w w' ∧ wpS P l.toArray Q rest (a.put o.dst v) w')) (fun _ _ h => h)
  refine sord_act ho' fun K hK => ?_
  rw [h1.1, if_pos rfl]
  unfold Oper.wp
  have h2 := h1.2
  generalize (execOp a.eval o).run P w = r at h2
  cases r with
  | ok n w' =>
    cases n <;> simp only [callOf] at h2 ⊢
    case enter f args =>
      obtain ⟨rfl, h2⟩ := h2
      simp only [Oper.upon]
      exact h2.mono fun e w'' ⟨v, he, hr, hk⟩ => by subst he; exact hK _ _ ⟨hr, hk⟩
  | halt x w' => exact h2.elim
end
end Go.Proofs.YtamfhmmcnlollaaGreat
namespace Go.Proofs.YtamfhmmcnlollaaGreat
open Go.RowKit
set_option linter.unusedVariables false

theorem Cel.put {w : World} {p : Addr} {v u : Value} (h : Cel w p v) : Cel (w.setCell p u) p u :=
  ⟨World.cell?_setCell_same _ _ _ h.1, by rw [World.frozen?_setCell]; exact h.2.1, by simpa [World.setCell] using h.2.2⟩
theorem Cel.set {w : World} {p q : Addr} {v u : Value} (h : Cel w p v) (hne : q ≠ p) : Cel (w.setCell q u) p v :=
  ⟨by rw [World.cell?_setCell_other _ _ _ _ hne]; exact h.1, by rw [World.frozen?_setCell]; exact h.2.1, by simpa [World.setCell] using h.2.2⟩
theorem Cel.drew {w : World} {p : Addr} {v : Value} (h : Cel w p v) : Cel w.drew p v := h
theorem dg_small {x : Nat} (h0 : 0 < x) (hx : x < W) : dg W x = [x] := by
  have := norm_dg (b := W) (xs := [x]) W_gt (All.cons hx All.nil) (strip_snoc (xs := []) (by omega))
  rw [this]
  simp [val]
/-- an own slice of one-cell values -/
def OwnV (T : TypeId) (B : Nat) (w : World) (A : Option Addr) (n c : Nat) (vs : List Value) : Prop := w.ownsRow B T 1 (.slice A n c) n vs
theorem OwnV.nil {T : TypeId} {B : Nat} {w : World} : OwnV T B w none 0 0 [] := World.ownsRow_nil _ _ _ _
theorem OwnV.below {T : TypeId} {B n c : Nat} {w w' : World} {A : Option Addr} {vs : List Value} (h : OwnV T B w A n c vs) (hb : Below w.heap.size w w') : OwnV T B w' A n c vs := ownsRow_below h hb
theorem wpList_appV {P : Program} {TT T : TypeId} {B : Nat} {w : World} {A : Option Addr} {n c c2 : Nat} {v : Value} {vs : List Value} {ops : Array Oper} {rest : List Oper} {o : Oper} {a : Act} {Q : Exit → Act → World → Prop} (hgd : o.guard = none) (s x : Operand)
    (ho : o.op = .call { callee := .builtin .append, args := #[s, x], argTypes := #[TT, TT] }) (he : ElemS P TT T)
    (hs : a.eval s = .slice A n c) {ad : Addr} (hx : a.eval x = .slice (some ad) 1 c2) (hown : OwnV T B w A n c vs) (hc : w.cell? ad = some v) (hv : v.oneCell' = true) (hlen : n + 1 ≤ 1099511627776) (hB : B ≤ w.heap.size)
    (h : ∀ A' c' w', OwnV T B w' A' (n + 1) c' (vs ++ [v]) → Below B w w' → wpList P ops Q rest (a.put o.dst (.slice A' (n + 1) c')) w') : wpList P ops Q (o :: rest) a w := by
  obtain ⟨hT, hinfo⟩ := he
  obtain ⟨i, hi, hz, hs1, hb⟩ := info_parts hinfo
  refine wpList_append_own_at w hgd s x TT ho B T i (.slice none 0 0) 1 24 hT hi hz hs1 hb rfl (by decide) _ n _ hs hown ad 1 c2 [v] hx rfl ?_ (by simp [hv]) (by simp only [maxLen]; omega) (by omega) hB ?_
  · intro j u hj
    rcases j with _ | j
    · simp at hj; subst hj
      have : ad.add 0 = ad := by unfold Addr.add; split <;> simp_all
      rw [this]; exact hc
    · simp at hj
  · intro v' w' h1 h2
    intros
    have hform : ∃ A' c', v' = .slice A' (n + 1) c' := by
      rcases h1.2 with ⟨h3, h4⟩ | ⟨g, cap, cur, hv, _⟩
      · omega
      · exact ⟨_, _, hv⟩
    obtain ⟨A', c', rfl⟩ := hform
    exact h A' c' w' h1 ((Below.refl _ _).grown h2 hB (fun g hg' => (World.ownsRow.lt hown g hg').1))
theorem OwnV.nums {T : TypeId} {B n c : Nat} {w : World} {A : Option Addr} {vs : List Value} {xs ls : List Nat} (h : OwnV T B w A n c vs) (hx : xs.length = n) (hl : ls.length = n) (hc : n ≤ c) (hv : ∀ i v, vs[i]? = some v → Num w v (nth xs i) (nth ls i)) : Nums w A n c xs ls := by
  refine ⟨⟨hx, hl, hc⟩, fun hn => ?_⟩
  have hvl : vs.length = n := by have := h.1; omega
  obtain ⟨g, cap, hvv, hb, hlt⟩ := World.ownsRow.form h hn
  injection hvv with hA _ hcc
  subst hA
  refine ⟨g, 0, rfl, hlt, fun i hi => ?_⟩
  refine ⟨vs[i]'(by omega), ?_, hv i _ (by rw [List.getElem?_eq_getElem])⟩
  rw [Nat.zero_add, World.ownsRow.cellAt h i (by omega), List.getElem?_eq_getElem (by omega)]
theorem OwnV.cap {T : TypeId} {B n c : Nat} {w : World} {A : Option Addr} {vs : List Value} (h : OwnV T B w A n c vs) : n ≤ c ∧ c ≤ maxLen := by
  rcases h.2 with ⟨h3, h4⟩ | ⟨g, cap, cur, hv, hg, hh, hnc, hcm, r⟩
  · injection h3 with _ e1 e2; subst e1; subst e2; exact ⟨Nat.le_refl _, Nat.zero_le _⟩
  · injection hv with _ _ e; subst e; exact ⟨hnc, hcm⟩
theorem OwnR.nums {t T : TypeId} {B n c : Nat} {w : World} {A : Option Addr} {F : Nat → List Nat → Prop} {xs ls : List Nat} (h : OwnR .u64 t T B w A n c F) (hx : xs.length = n) (hl : ls.length = n) (hF : ∀ i zs, F i zs → All W zs ∧ val W zs = nth xs i ∧ zs.length ≤ nth ls i) : Nums w A n c xs ls := by
  refine ⟨⟨hx, hl, h.cap.1⟩, fun hn => ?_⟩
  obtain ⟨g, _, _, _, _, rfl, _, hlt, _⟩ := h.at hn
  refine ⟨g, 0, rfl, hlt, fun i hi => ?_⟩
  obtain ⟨g', A', n', c', zs, eg, _, _, hc, ho, hf⟩ := h.at hi
  injection eg with eg
  injection eg with eg
  subst eg
  obtain ⟨f1, f2, f3⟩ := hF i zs hf
  exact ⟨_, by rw [Nat.zero_add]; exact hc, A', n', c', zs, rfl, ho.rd, f1, f2, by rw [← ho.len]; exact f3⟩

theorem val_take_mod {xs : List Nat} (h : All W xs) (k : Nat) : val W (xs.take k) = val W xs % W ^ k := by
  have h1 := val_take_lt h W_pos k
  have h2 : val W xs = val W (xs.take k) + W ^ k * val W (xs.drop k) := by
    have := val_append (b := W) (xs.take k) (xs.drop k)
    rw [List.take_append_drop] at this
    rw [this, List.length_take]
    by_cases hk : k ≤ xs.length
    · rw [Nat.min_eq_left hk]
    · rw [List.drop_of_length_le (by omega)]; simp [val]
  rw [h2, Nat.add_mul_mod_self_left, Nat.mod_eq_of_lt h1]
/-- one of the caller's slices, of so many words -/
def GFew (w0 w : World) (x : Nat) (e : Ending) (w' : World) : Prop := ∃ A n c, e = .returned (.slice A n c) ∧ Num w0 (.slice A n c) x 30 ∧ w = w'
set_option maxHeartbeats 400000 in
theorem few05_any {v : Value} {x L : Nat} {w0 w : World} (h : Num w0 v x L) : Calls Tryz.prog 39 #[v] w (GFew w0 w (x % W ^ 30)) := by
  obtain ⟨A, n, c, xs, rfl, h1, h2, rfl, h4⟩ := h
  have hcap := h1.cap
  have HN : Hid (Num w0 (.slice A (min n 30) c) (val W xs % W ^ 30) 30) := ⟨_, _, _, _, rfl, h1.upto (j := min n 30) (by omega), h2.take _, by
    rw [← val_take_mod h2]
    by_cases hn : n ≤ 30
    · rw [Nat.min_eq_left hn, val_take_ge (by rw [h1.len]; exact Nat.le_refl _), val_take_ge (by rw [h1.len]; exact hn)]
    · rw [Nat.min_eq_right (by omega)], by omega⟩
  have e1 := lay (show min (n : Int) 30 = ((min n 30 : Nat) : Int) by omega)
  have i1 : ((min n 30 : Nat) : Int) ≤ (c : Int) := by omega
  have i0 : (0 : Int) ≤ ((min n 30 : Nat) : Int) := by omega
  generalize val W xs % W ^ 30 = x at *
  generalize min n 30 = m at *
  clear h1 h2 h4
  go_enter Tryz.func39, Tryz.ntmps39
  go_wp2
  go_ret
  exact ⟨_, _, _, rfl, HN.out, rfl⟩

theorem elNats5 : ElemS Tryz.prog 24 23 := ⟨Tryz.underlying24, by kernel_rfl⟩
theorem nth_replicate {n i k : Nat} (h : i < n) : nth (List.replicate n k) i = k := by simp [nth, h]
theorem OwnV.set_low {T : TypeId} {B n c : Nat} {w : World} {A : Option Addr} {vs : List Value} {p : Addr} (h : OwnV T B w A n c vs) (hp : p.block < B) (u : Value) : OwnV T B (w.setCell p u) A n c vs := by
  refine ⟨h.1, ?_⟩
  rcases h.2 with h2 | ⟨g, cap, cur, hv, hg, hh, r⟩
  · exact .inl h2
  · refine .inr ⟨g, cap, cur, hv, hg, ?_, r⟩
    rw [Below.heap_setCell w p u g (by rintro rfl; omega)]
    exact hh
/-- the case in its box, the answer's box behind it -/
def LessB (w0 : World) (vs us : Array Value) (wr : World) : Prop :=
  Below w0.heap.size w0 wr ∧ w0.heap.size + 1 + 1 ≤ wr.heap.size ∧ (∀ i v, vs[i]? = some v → Cel wr ⟨w0.heap.size, i, none⟩ v) ∧ (∀ i v, us[i]? = some v → Cel wr ⟨w0.heap.size + 1, i, none⟩ v)
theorem LessB.start {w : World} {vs us : Array Value} {t : TypeId} : LessB w vs us (((w.alloc (.cells vs t)).alloc (.cells us t)).drew) := by
  refine ⟨((belowA w _).trans ((belowA _ _).mono (by simp))).drew, by simp [World.drew], fun i v h => ?_, fun i v h => ?_⟩
  · exact Cel.drew ((Cel.box w vs h rfl).below (belowA _ _))
  · exact Cel.drew (Cel.box _ us h (by simp))
theorem LessB.below {w0 w w' : World} {vs us : Array Value} (h : LessB w0 vs us w) (hb : Below w.heap.size w w') : LessB w0 vs us w' :=
  ⟨h.1.trans (hb.mono h.1.size), Nat.le_trans h.2.1 hb.size, fun i v e => (h.2.2.1 i v e).below hb, fun i v e => (h.2.2.2 i v e).below hb⟩
theorem LessB.step {w0 w w' : World} {vs us : Array Value} (h : LessB w0 vs us w) (hb : Below (w0.heap.size + 1 + 1) w w') : LessB w0 vs us w' := by
  have hc : ∀ {p : Addr} {v : Value}, p.block < w0.heap.size + 1 + 1 → Cel w p v → Cel w' p v := fun hp hcl => ⟨(hb.cell hp).trans hcl.1, (hb.frozen hp).trans hcl.2.1, Nat.lt_of_lt_of_le hcl.2.2 hb.size⟩
  exact ⟨h.1.trans (hb.mono (by omega)), Nat.le_trans h.2.1 hb.size, fun i v e => hc (by show w0.heap.size < _; omega) (h.2.2.1 i v e), fun i v e => hc (by show w0.heap.size + 1 < _; omega) (h.2.2.2 i v e)⟩
/-- numbers of the caller -/
def NumsV (w : World) (vs : List Value) : Prop := ∀ v, v ∈ vs → Num w v (mval w v) 30
theorem NumsV.snoc {w : World} {vs : List Value} {v : Value} {x : Nat} (h : NumsV w vs) (hv : Num w v x 30) : NumsV w (vs ++ [v]) := by
  intro u hu
  rcases List.mem_append.1 hu with h1 | h1
  · exact h u h1
  · simp at h1; subst h1; rw [mval_num hv]; exact hv
theorem NumsV.nums {T : TypeId} {w w' : World} {B n q : Nat} {A : Option Addr} {vs : List Value} (h : NumsV w vs) (ho : OwnV T B w' A n q vs) (hb : Below w.heap.size w w') : Nums w' A n q (vs.map (mval w)) (List.replicate n 30) := by
  have hvl : vs.length = n := by have := ho.1; omega
  refine ho.nums (by simp [hvl]) (by simp) ho.cap.1 fun i v hv => ?_
  have hi : i < vs.length := (List.getElem?_eq_some_iff.1 hv).1
  rw [nth_replicate (by omega)]
  have e : nth (vs.map (mval w)) i = mval w v := by simp [nth, hv]
  rw [e]
  exact (h v (List.mem_of_getElem? hv)).below hb
def set8 (b : Nat) (w : World) (u3 u4 v0 v1 v2 v3 v4 v5 : Value) : World :=
  ((((((((w.setCell ⟨b, 3, none⟩ u3).setCell ⟨b, 4, none⟩ u4).setCell ⟨b + 1, 0, none⟩ v0).setCell ⟨b + 1, 1, none⟩ v1).setCell ⟨b + 1, 2, none⟩ v2).setCell ⟨b + 1, 3, none⟩ v3).setCell ⟨b + 1, 4, none⟩ v4).setCell ⟨b + 1, 5, none⟩ v5)
theorem OwnV.set8 {T : TypeId} {B n c b : Nat} {w : World} {A : Option Addr} {vs : List Value} {u3 u4 v0 v1 v2 v3 v4 v5 : Value} (h : OwnV T B w A n c vs) (hb : b + 1 < B) : OwnV T B (set8 b w u3 u4 v0 v1 v2 v3 v4 v5) A n c vs :=
  ((((((((h.set_low (p := ⟨b, 3, none⟩) (by show b < B; omega) _).set_low (p := ⟨b, 4, none⟩) (by show b < B; omega) _).set_low (p := ⟨b + 1, 0, none⟩) hb _).set_low (p := ⟨b + 1, 1, none⟩) hb _).set_low (p := ⟨b + 1, 2, none⟩) hb _).set_low (p := ⟨b + 1, 3, none⟩) hb _).set_low (p := ⟨b + 1, 4, none⟩) hb _).set_low (p := ⟨b + 1, 5, none⟩) hb _)
theorem OwnV.mono {T : TypeId} {B B' n c : Nat} {w : World} {A : Option Addr} {vs : List Value} (h : OwnV T B w A n c vs) (hB : B' ≤ B) : OwnV T B' w A n c vs := by
  refine ⟨h.1, ?_⟩
  rcases h.2 with h2 | ⟨g, cap, cur, hv, hg, r⟩
  · exact .inl h2
  · exact .inr ⟨g, cap, cur, hv, by omega, r⟩
/-- what less answers: numbers of the caller's (world w0) -/
def LessP (T : TypeId) (w0 w : World) (a b k : Nat) (N : Int) (e : Ending) (w' : World) : Prop :=
  ∃ uA uB uK A n q vs A' m r us, e = .returned (.agg #[uA, uB, uK, .slice A n q, .slice A' m r, .int .i64 N]) ∧ (Num w0 uA a 30 ∧ Num w0 uB b 30 ∧ Num w0 uK k 30) ∧ (n ≤ 20 ∧ OwnV T w.heap.size w' A n q vs ∧ NumsV w0 vs) ∧ (m ≤ 20 ∧ OwnV T w.heap.size w' A' m r us ∧ NumsV w0 us) ∧ Below w.heap.size w w'
theorem less_fin {w0 w wr : World} {pA pB pK : Option Addr} {nA cA nB cB nK cK a b k n q m r B2 : Nat} {A A' : Option Addr} {vs us : List Value} {T : TypeId} {N : Int} {u3 u4 v0 v1 v2 v3 v4 v5 : Value}
    (h1 : Num w0 (.slice pA nA cA) a 30) (h2 : Num w0 (.slice pB nB cB) b 30) (h3 : Num w0 (.slice pK nK cK) k 30) (hb0 : Below w.heap.size w wr)
    (hn : n ≤ 20) (hv : NumsV w0 vs) (ho : OwnV T (w.heap.size + 1 + 1) wr A n q vs) (hm : m ≤ 20) (hu : NumsV w0 us) (ho' : OwnV T B2 wr A' m r us) (hB2 : w.heap.size + 1 < B2) :
    LessP T w0 w a b k N (.returned (.agg #[.slice pA nA cA, .slice pB nB cB, .slice pK nK cK, .slice A n q, .slice A' m r, .int .i64 N])) (set8 w.heap.size wr u3 u4 v0 v1 v2 v3 v4 v5) := by
  have hb : Below w.heap.size w (set8 w.heap.size wr u3 u4 v0 v1 v2 v3 v4 v5) := (((((((hb0.setCell (p := ⟨w.heap.size, 3, none⟩) (by simp) _).setCell (p := ⟨w.heap.size, 4, none⟩) (by simp) _).setCell (p := ⟨w.heap.size + 1, 0, none⟩) (by simp) _).setCell (p := ⟨w.heap.size + 1, 1, none⟩) (by simp) _).setCell (p := ⟨w.heap.size + 1, 2, none⟩) (by simp) _).setCell (p := ⟨w.heap.size + 1, 3, none⟩) (by simp) _).setCell (p := ⟨w.heap.size + 1, 4, none⟩) (by simp) _).setCell (p := ⟨w.heap.size + 1, 5, none⟩) (by simp) _
  exact ⟨_, _, _, _, _, _, _, _, _, _, _, rfl, ⟨h1, h2, h3⟩, ⟨hn, (ho.set8 (by omega)).mono (by omega), hv⟩, ⟨hm, (ho'.set8 hB2).mono (by omega), hu⟩, hb⟩
set_option maxHeartbeats 4000000 in
set_option maxRecDepth 100000 in
theorem less05_any {vA vB vK : Value} {A3 A4 : Option Addr} {n3 c3 n4 c4 a b k LA LB LK : Nat} {N : Int} {xs ys ls ms : List Nat} {w0 w : World} (hbz : Below w0.heap.size w0 w) (hA : Num w0 vA a LA) (hB : Num w0 vB b LB) (hK : Num w0 vK k LK) (h3 : Nums w0 A3 n3 c3 xs ls) (h4 : Nums w0 A4 n4 c4 ys ms) :
    Calls Tryz.prog 6 #[.agg #[vA, vB, vK, .slice A3 n3 c3, .slice A4 n4 c4, .int .i64 N]] w (LessP 23 w0 w (a % W ^ 30) (b % W ^ 30) (k % W ^ 30) N) := by
  have HBZ := Lib.hid hbz
  have HA := Lib.hid hA
  have HB := Lib.hid hB
  have HK := Lib.hid hK
  have HS3 := Lib.hid h3
  have HS4 := Lib.hid h4
  have HE := Lib.hid elNats5
  obtain ⟨pA, nA, cA, _, rfl, _⟩ := id hA
  obtain ⟨pB, nB, cB, _, rfl, _⟩ := id hB
  obtain ⟨pK, nK, cK, _, rfl, _⟩ := id hK
  clear hbz hA hB hK h3 h4
  go_enter Tryz.func6, Tryz.ntmps6
  go_wp2_with fail
  have e_f0 := ((Cel.box (i := 0) (v := .slice pA nA cA) (t := 26) (b := w.heap.size) w #[.slice pA nA cA, .slice pB nB cB, .slice pK nK cK, .slice A3 n3 c3, .slice A4 n4 c4, .int .i64 N] rfl (by simp)).below ((Below.refl _ _).alloc (Nat.le_refl _) (.cells #[.slice none 0 0, .slice none 0 0, .slice none 0 0, .slice none 0 0, .slice none 0 0, .int .i64 0] 26))).1
  have g_f0 := At.grow (p := _) ⟨((Cel.box (i := 0) (v := .slice pA nA cA) (t := 26) (b := w.heap.size) w #[.slice pA nA cA, .slice pB nB cB, .slice pK nK cK, .slice A3 n3 c3, .slice A4 n4 c4, .int .i64 N] rfl (by simp)).below ((Below.refl _ _).alloc (Nat.le_refl _) (.cells #[.slice none 0 0, .slice none 0 0, .slice none 0 0, .slice none 0 0, .slice none 0 0, .int .i64 0] 26))).1, ((Cel.box (i := 0) (v := .slice pA nA cA) (t := 26) (b := w.heap.size) w #[.slice pA nA cA, .slice pB nB cB, .slice pK nK cK, .slice A3 n3 c3, .slice A4 n4 c4, .int .i64 N] rfl (by simp)).below ((Below.refl _ _).alloc (Nat.le_refl _) (.cells #[.slice none 0 0, .slice none 0 0, .slice none 0 0, .slice none 0 0, .slice none 0 0, .int .i64 0] 26))).2.2⟩
  have e_f1 := ((Cel.box (i := 1) (v := .slice pB nB cB) (t := 26) (b := w.heap.size) w #[.slice pA nA cA, .slice pB nB cB, .slice pK nK cK, .slice A3 n3 c3, .slice A4 n4 c4, .int .i64 N] rfl (by simp)).below ((Below.refl _ _).alloc (Nat.le_refl _) (.cells #[.slice none 0 0, .slice none 0 0, .slice none 0 0, .slice none 0 0, .slice none 0 0, .int .i64 0] 26))).1
  have g_f1 := At.grow (p := _) ⟨((Cel.box (i := 1) (v := .slice pB nB cB) (t := 26) (b := w.heap.size) w #[.slice pA nA cA, .slice pB nB cB, .slice pK nK cK, .slice A3 n3 c3, .slice A4 n4 c4, .int .i64 N] rfl (by simp)).below ((Below.refl _ _).alloc (Nat.le_refl _) (.cells #[.slice none 0 0, .slice none 0 0, .slice none 0 0, .slice none 0 0, .slice none 0 0, .int .i64 0] 26))).1, ((Cel.box (i := 1) (v := .slice pB nB cB) (t := 26) (b := w.heap.size) w #[.slice pA nA cA, .slice pB nB cB, .slice pK nK cK, .slice A3 n3 c3, .slice A4 n4 c4, .int .i64 N] rfl (by simp)).below ((Below.refl _ _).alloc (Nat.le_refl _) (.cells #[.slice none 0 0, .slice none 0 0, .slice none 0 0, .slice none 0 0, .slice none 0 0, .int .i64 0] 26))).2.2⟩
  have e_f2 := ((Cel.box (i := 2) (v := .slice pK nK cK) (t := 26) (b := w.heap.size) w #[.slice pA nA cA, .slice pB nB cB, .slice pK nK cK, .slice A3 n3 c3, .slice A4 n4 c4, .int .i64 N] rfl (by simp)).below ((Below.refl _ _).alloc (Nat.le_refl _) (.cells #[.slice none 0 0, .slice none 0 0, .slice none 0 0, .slice none 0 0, .slice none 0 0, .int .i64 0] 26))).1
  have g_f2 := At.grow (p := _) ⟨((Cel.box (i := 2) (v := .slice pK nK cK) (t := 26) (b := w.heap.size) w #[.slice pA nA cA, .slice pB nB cB, .slice pK nK cK, .slice A3 n3 c3, .slice A4 n4 c4, .int .i64 N] rfl (by simp)).below ((Below.refl _ _).alloc (Nat.le_refl _) (.cells #[.slice none 0 0, .slice none 0 0, .slice none 0 0, .slice none 0 0, .slice none 0 0, .int .i64 0] 26))).1, ((Cel.box (i := 2) (v := .slice pK nK cK) (t := 26) (b := w.heap.size) w #[.slice pA nA cA, .slice pB nB cB, .slice pK nK cK, .slice A3 n3 c3, .slice A4 n4 c4, .int .i64 N] rfl (by simp)).below ((Below.refl _ _).alloc (Nat.le_refl _) (.cells #[.slice none 0 0, .slice none 0 0, .slice none 0 0, .slice none 0 0, .slice none 0 0, .int .i64 0] 26))).2.2⟩
  refine wp_region_stores [(0, 0), (0, 1), (0, 3), (0, 4), (0, 6), (0, 7), (1, 2), (0, 9), (1, 5), (1, 8), (2, 10), (0, 11), (2, 12), (0, 13), (2, 14)] (by kernel_rfl) (by kernel_rfl) ?_
  repeat (first | (refine sord_pas (by rfl) (fun K hK => ?_); go_simp; refine hK _ _ (fun w' hw' => (by first | (go_simp; done) | (go_simp; intro hh; cases hh))) ?_; clear hK K) | (refine sord_pasT (by rfl) (fun K hK => ?_); go_simp; refine hK _ _ (fun w' hw' => (by first | (go_simp; done) | (go_simp; intro hh; cases hh))) ?_; clear hK K))
  (refine sord_call (by rfl) (fun K hK => ?_); go_simp; refine hK _ _ ?_; clear hK K)
  refine (few05_any HA.out).mono ?_
  rintro e w' ⟨A1, n1, c1, rfl, hf1, rfl⟩
  refine ⟨_, rfl, Grow.refl _ _, ?_⟩
  (refine sord_norm (fun K hK => ?_); go_simp; refine hK _ ?_; clear hK K)
  repeat (first | (refine sord_pas (by rfl) (fun K hK => ?_); go_simp; refine hK _ _ (fun w' hw' => (by first | (go_simp; done) | (go_simp; intro hh; cases hh))) ?_; clear hK K) | (refine sord_pasT (by rfl) (fun K hK => ?_); go_simp; refine hK _ _ (fun w' hw' => (by first | (go_simp; done) | (go_simp; intro hh; cases hh))) ?_; clear hK K))
  (refine sord_call (by rfl) (fun K hK => ?_); go_simp; refine hK _ _ ?_; clear hK K)
  refine (few05_any HB.out).mono ?_
  rintro e w' ⟨A2, n2, c2, rfl, hf2, rfl⟩
  refine ⟨_, rfl, Grow.refl _ _, ?_⟩
  (refine sord_norm (fun K hK => ?_); go_simp; refine hK _ ?_; clear hK K)
  (refine sord_call (by rfl) (fun K hK => ?_); go_simp; refine hK _ _ ?_; clear hK K)
  refine (few05_any HK.out).mono ?_
  rintro e w' ⟨A5, n5, c5, rfl, hf5, rfl⟩
  refine ⟨_, rfl, Grow.refl _ _, ?_⟩
  (refine sord_norm (fun K hK => ?_); go_simp; refine hK _ ?_; clear hK K)
  clear g_f0 g_f1 g_f2 e_f0 e_f1 e_f2
  have HF1 := Lib.hid hf1
  have HF2 := Lib.hid hf2
  have HF5 := Lib.hid hf5
  have z0 := (((Cel.box (i := 0) (v := .slice pA nA cA) (t := 26) (b := w.heap.size) w #[.slice pA nA cA, .slice pB nB cB, .slice pK nK cK, .slice A3 n3 c3, .slice A4 n4 c4, .int .i64 N] rfl (by simp)).below ((Below.refl _ _).alloc (Nat.le_refl _) (.cells #[.slice none 0 0, .slice none 0 0, .slice none 0 0, .slice none 0 0, .slice none 0 0, .int .i64 0] 26))).below (Below.refl _ _).drew)
  have z1 := (((Cel.box (i := 1) (v := .slice pB nB cB) (t := 26) (b := w.heap.size) w #[.slice pA nA cA, .slice pB nB cB, .slice pK nK cK, .slice A3 n3 c3, .slice A4 n4 c4, .int .i64 N] rfl (by simp)).below ((Below.refl _ _).alloc (Nat.le_refl _) (.cells #[.slice none 0 0, .slice none 0 0, .slice none 0 0, .slice none 0 0, .slice none 0 0, .int .i64 0] 26))).below (Below.refl _ _).drew)
  have z2 := (((Cel.box (i := 2) (v := .slice pK nK cK) (t := 26) (b := w.heap.size) w #[.slice pA nA cA, .slice pB nB cB, .slice pK nK cK, .slice A3 n3 c3, .slice A4 n4 c4, .int .i64 N] rfl (by simp)).below ((Below.refl _ _).alloc (Nat.le_refl _) (.cells #[.slice none 0 0, .slice none 0 0, .slice none 0 0, .slice none 0 0, .slice none 0 0, .int .i64 0] 26))).below (Below.refl _ _).drew)
  obtain ⟨z0a, z0b, z0c⟩ := z0
  obtain ⟨z1a, z1b, z1c⟩ := z1
  obtain ⟨z2a, z2b, z2c⟩ := z2
  (refine sord_store (by rfl) (fun K hK => ?_); go_simp; refine hK _ _ ?_; clear hK K)
  repeat (first | (refine sord_pas (by rfl) (fun K hK => ?_); go_simp; refine hK _ _ (fun w' hw' => (by first | (go_simp; done) | (go_simp; intro hh; cases hh))) ?_; clear hK K) | (refine sord_pasT (by rfl) (fun K hK => ?_); go_simp; refine hK _ _ (fun w' hw' => (by first | (go_simp; done) | (go_simp; intro hh; cases hh))) ?_; clear hK K))
  (refine sord_store (by rfl) (fun K hK => ?_); go_simp; refine hK _ _ ?_; clear hK K)
  repeat (first | (refine sord_pas (by rfl) (fun K hK => ?_); go_simp; refine hK _ _ (fun w' hw' => (by first | (go_simp; done) | (go_simp; intro hh; cases hh))) ?_; clear hK K) | (refine sord_pasT (by rfl) (fun K hK => ?_); go_simp; refine hK _ _ (fun w' hw' => (by first | (go_simp; done) | (go_simp; intro hh; cases hh))) ?_; clear hK K))
  (refine sord_store (by rfl) (fun K hK => ?_); go_simp; refine hK _ _ ?_; clear hK K)
  refine sord_nil ?_
  clear z0a z0b z0c z1a z1b z1c z2a z2b z2c hf1 hf2 hf5
  go_wp2
  go_loopw [3, 5] (fun lv iv wr => ∃ (kk : Nat) (B : Option Addr) (q : Nat) (vs : List Value), Hid (OwnV 23 (w.heap.size + 1 + 1) wr B kk q vs ∧ NumsV w0 vs ∧ LessB w #[.slice A1 n1 c1, .slice A2 n2 c2, .slice A5 n5 c5, .slice A3 n3 c3, .slice A4 n4 c4, .int .i64 N] #[.slice none 0 0, .slice none 0 0, .slice none 0 0, .slice none 0 0, .slice none 0 0, .int .i64 0] wr) ∧ kk ≤ n3 ∧ kk ≤ 20 ∧ lv = .slice B kk q ∧ iv = .int .i64 (kk : Int)) (fun _ iv _ => n3 - (intOf iv).toNat)
  case atStart => exact ⟨0, none, 0, [], ⟨OwnV.nil, (fun v hv => by cases hv), LessB.start⟩, Nat.zero_le _, by omega, rfl, rfl⟩
  case round =>
    obtain ⟨kk, B, q, vs, hI, hk, hk2, rfl, rfl⟩ := hrel
    have HC := Lib.hid (hI.out.2.2.2.2.1 3 _ rfl)
    by_cases hlt : kk < n3
    · have i1 : (kk : Int) < (n3 : Int) := by omega
      by_cases hlt2 : kk < 20
      · have i2 : (kk : Int) < 20 := by omega
        have i0 : (0 : Int) ≤ (kk : Int) := by omega
        obtain ⟨b, off, v, ea, hb, hca, hv⟩ := HS3.out.at hlt
        subst ea
        have hca2 := ((bt HBZ.out hI.out.2.2.1).cell (p := ⟨b, off + kk, none⟩) hb).trans hca
        have HV := Lib.hid hv
        have HBW := Lib.hid hI.out.2.2
        obtain ⟨a1, a2, a3, _, rfl, _⟩ := id hv
        have hcc := HC.out.1
        clear hv hca
        go_wp2_with fail
        refine (few05_any HV.out).mono ?_
        rintro e w' ⟨Af, nf, cf, rfl, hf, rfl⟩
        have HF := Lib.hid hf
        clear hf
        go_wp2_with (at_builtin; (refine wpList_appV rfl (.tmp 30) (.tmp 37) rfl HE.out (B := (w.heap.size + 1 + 1)) rfl rfl (hI.out.1.below ((Below.refl _ _).alloc (Nat.le_refl _) _)) (At.box wr #[.slice Af nf cf] rfl).1 rfl (by omega) (by have := HBW.out.2.1; simp; omega) ?_); intro B2 e2 w2 ho2 hb2)
        have HN := Lib.hid (And.intro ho2 (And.intro (hI.out.2.1.snoc HF.out) (HBW.out.step (((Below.refl _ _).alloc HBW.out.2.1 _).trans hb2))))
        clear ho2 hb2
        go_roundw
        case rel => exact ⟨kk + 1, B2, e2, _, HN, by omega, by omega, rfl, by go_num⟩
        case measure => simp [intOf]; omega
      · have i2 : ¬ (kk : Int) < 20 := by omega
        have hcc := HC.out.1
        have HL1 := Lib.hid (And.intro hk2 hI.out)
        obtain ⟨wo, rfl⟩ : ∃ wo : World, wo = wr := ⟨_, rfl⟩
        clear hI hk hk2 hlt
        go_wp2
        clear hcc HC
        go_loopw [4, 6] (fun lv iv wr => ∃ (kk : Nat) (B : Option Addr) (q : Nat) (vs : List Value), Hid (OwnV 23 wo.heap.size wr B kk q vs ∧ NumsV w0 vs ∧ Below wo.heap.size wo wr) ∧ kk ≤ n4 ∧ kk ≤ 20 ∧ lv = .slice B kk q ∧ iv = .int .i64 (kk : Int)) (fun _ iv _ => n4 - (intOf iv).toNat)
        case atStart => exact ⟨0, none, 0, [], ⟨OwnV.nil, (fun v hv => by cases hv), Below.refl _ _⟩, Nat.zero_le _, by omega, rfl, rfl⟩
        case round =>
          obtain ⟨kk, B, q, vs, hI, hk, hk2, rfl, rfl⟩ := hrel
          have HC := Lib.hid ((HL1.out.2.2.2.below hI.out.2.2).2.2.1 4 _ rfl)
          by_cases hlt : kk < n4
          · have i1 : (kk : Int) < (n4 : Int) := by omega
            by_cases hlt2 : kk < 20
            · have i2 : (kk : Int) < 20 := by omega
              have i0 : (0 : Int) ≤ (kk : Int) := by omega
              obtain ⟨b, off, v, ea, hb, hca, hv⟩ := HS4.out.at hlt
              subst ea
              have hca2 := ((bt HBZ.out (HL1.out.2.2.2.below hI.out.2.2).1).cell (p := ⟨b, off + kk, none⟩) hb).trans hca
              have HV := Lib.hid hv
              have HBW := Lib.hid (HL1.out.2.2.2.below hI.out.2.2)
              obtain ⟨a1, a2, a3, _, rfl, _⟩ := id hv
              have hcc := HC.out.1
              clear hv hca
              go_wp2_with fail
              refine (few05_any HV.out).mono ?_
              rintro e w' ⟨Af, nf, cf, rfl, hf, rfl⟩
              have HF := Lib.hid hf
              clear hf
              go_wp2_with (at_builtin; (refine wpList_appV rfl (.tmp 50) (.tmp 57) rfl HE.out (B := wo.heap.size) rfl rfl (hI.out.1.below ((Below.refl _ _).alloc (Nat.le_refl _) _)) (At.box wr #[.slice Af nf cf] rfl).1 rfl (by omega) (by have := hI.out.2.2.size; simp; omega) ?_); intro B2 e2 w2 ho2 hb2)
              have HN := Lib.hid (And.intro ho2 (And.intro (hI.out.2.1.snoc HF.out) ((hI.out.2.2.alloc hI.out.2.2.size _).trans hb2)))
              clear ho2 hb2
              go_roundw
              case rel => exact ⟨kk + 1, B2, e2, _, HN, by omega, by omega, rfl, by go_num⟩
              case measure => simp [intOf]; omega
            · have i2 : ¬ (kk : Int) < 20 := by omega
              have hcc := HC.out.1
              have HLB := Lib.hid (HL1.out.2.2.2.below hI.out.2.2)
              have HO1 := Lib.hid (HL1.out.2.1.below hI.out.2.2)
              have HM := Lib.hid (And.intro hk2 hI.out)
              have HSZ := Lib.hid (And.intro HL1.out.2.2.2.2.1 hI.out.2.2.size)
              have HB1 := Lib.hid (HL1.out.2.2.2.1)
              have hI2 := Lib.hid hI.out.2.2
              obtain ⟨z0a, z0b, z0c⟩ := HLB.out.2.2.1 0 _ rfl
              obtain ⟨z1a, z1b, z1c⟩ := HLB.out.2.2.1 1 _ rfl
              obtain ⟨z2a, z2b, z2c⟩ := HLB.out.2.2.1 2 _ rfl
              obtain ⟨z3a, z3b, z3c⟩ := HLB.out.2.2.1 3 _ rfl
              obtain ⟨z4a, z4b, z4c⟩ := HLB.out.2.2.1 4 _ rfl
              obtain ⟨z5a, z5b, z5c⟩ := HLB.out.2.2.1 5 _ rfl
              obtain ⟨y0a, y0b, y0c⟩ := HLB.out.2.2.2 0 _ rfl
              obtain ⟨y1a, y1b, y1c⟩ := HLB.out.2.2.2 1 _ rfl
              obtain ⟨y2a, y2b, y2c⟩ := HLB.out.2.2.2 2 _ rfl
              obtain ⟨y3a, y3b, y3c⟩ := HLB.out.2.2.2 3 _ rfl
              obtain ⟨y4a, y4b, y4c⟩ := HLB.out.2.2.2 4 _ rfl
              obtain ⟨y5a, y5b, y5c⟩ := HLB.out.2.2.2 5 _ rfl
              clear z0c z1c z2c z3c z4c z5c y0c y1c y2c y3c y4c y5c hI hk hk2 hlt hcc HC
              go_wp2
              refine bodyPost_ret (v := .agg #[.slice A1 n1 c1, .slice A2 n2 c2, .slice A5 n5 c5, .slice _ _ _, .slice B kk q, .int .i64 N]) (by simp [results, Tryz.results6, go_sem, y0a, y1a, y2a, y3a, y4a, y5a]; exact ⟨rfl, rfl, rfl⟩) rfl ?_
              exact less_fin HF1.out HF2.out HF5.out (bt HB1.out hI2.out) HL1.out.1 HL1.out.2.2.1 HO1.out HM.out.1 HM.out.2.2.1 HM.out.2.1 (by have := HSZ.out.1; omega)
          · have i1 : ¬ (kk : Int) < (n4 : Int) := by omega
            have hcc := HC.out.1
            have HLB := Lib.hid (HL1.out.2.2.2.below hI.out.2.2)
            have HO1 := Lib.hid (HL1.out.2.1.below hI.out.2.2)
            have HM := Lib.hid (And.intro hk2 hI.out)
            have HSZ := Lib.hid (And.intro HL1.out.2.2.2.2.1 hI.out.2.2.size)
            have HB1 := Lib.hid (HL1.out.2.2.2.1)
            have hI2 := Lib.hid hI.out.2.2
            obtain ⟨z0a, z0b, z0c⟩ := HLB.out.2.2.1 0 _ rfl
            obtain ⟨z1a, z1b, z1c⟩ := HLB.out.2.2.1 1 _ rfl
            obtain ⟨z2a, z2b, z2c⟩ := HLB.out.2.2.1 2 _ rfl
            obtain ⟨z3a, z3b, z3c⟩ := HLB.out.2.2.1 3 _ rfl
            obtain ⟨z4a, z4b, z4c⟩ := HLB.out.2.2.1 4 _ rfl
            obtain ⟨z5a, z5b, z5c⟩ := HLB.out.2.2.1 5 _ rfl
            obtain ⟨y0a, y0b, y0c⟩ := HLB.out.2.2.2 0 _ rfl
            obtain ⟨y1a, y1b, y1c⟩ := HLB.out.2.2.2 1 _ rfl
            obtain ⟨y2a, y2b, y2c⟩ := HLB.out.2.2.2 2 _ rfl
            obtain ⟨y3a, y3b, y3c⟩ := HLB.out.2.2.2 3 _ rfl
            obtain ⟨y4a, y4b, y4c⟩ := HLB.out.2.2.2 4 _ rfl
            obtain ⟨y5a, y5b, y5c⟩ := HLB.out.2.2.2 5 _ rfl
            clear z0c z1c z2c z3c z4c z5c y0c y1c y2c y3c y4c y5c hI hk hk2 hlt hcc HC
            go_wp2
            refine bodyPost_ret (v := .agg #[.slice A1 n1 c1, .slice A2 n2 c2, .slice A5 n5 c5, .slice _ _ _, .slice B kk q, .int .i64 N]) (by simp [results, Tryz.results6, go_sem, y0a, y1a, y2a, y3a, y4a, y5a]; exact ⟨rfl, rfl, rfl⟩) rfl ?_
            exact less_fin HF1.out HF2.out HF5.out (bt HB1.out hI2.out) HL1.out.1 HL1.out.2.2.1 HO1.out HM.out.1 HM.out.2.2.1 HM.out.2.1 (by have := HSZ.out.1; omega)
    · have i1 : ¬ (kk : Int) < (n3 : Int) := by omega
      have hcc := HC.out.1
      have HL1 := Lib.hid (And.intro hk2 hI.out)
      obtain ⟨wo, rfl⟩ : ∃ wo : World, wo = wr := ⟨_, rfl⟩
      clear hI hk hk2 hlt
      go_wp2
      clear hcc HC
      go_loopw [4, 6] (fun lv iv wr => ∃ (kk : Nat) (B : Option Addr) (q : Nat) (vs : List Value), Hid (OwnV 23 wo.heap.size wr B kk q vs ∧ NumsV w0 vs ∧ Below wo.heap.size wo wr) ∧ kk ≤ n4 ∧ kk ≤ 20 ∧ lv = .slice B kk q ∧ iv = .int .i64 (kk : Int)) (fun _ iv _ => n4 - (intOf iv).toNat)
      case atStart => exact ⟨0, none, 0, [], ⟨OwnV.nil, (fun v hv => by cases hv), Below.refl _ _⟩, Nat.zero_le _, by omega, rfl, rfl⟩
      case round =>
        obtain ⟨kk, B, q, vs, hI, hk, hk2, rfl, rfl⟩ := hrel
        have HC := Lib.hid ((HL1.out.2.2.2.below hI.out.2.2).2.2.1 4 _ rfl)
        by_cases hlt : kk < n4
        · have i1 : (kk : Int) < (n4 : Int) := by omega
          by_cases hlt2 : kk < 20
          · have i2 : (kk : Int) < 20 := by omega
            have i0 : (0 : Int) ≤ (kk : Int) := by omega
            obtain ⟨b, off, v, ea, hb, hca, hv⟩ := HS4.out.at hlt
            subst ea
            have hca2 := ((bt HBZ.out (HL1.out.2.2.2.below hI.out.2.2).1).cell (p := ⟨b, off + kk, none⟩) hb).trans hca
            have HV := Lib.hid hv
            have HBW := Lib.hid (HL1.out.2.2.2.below hI.out.2.2)
            obtain ⟨a1, a2, a3, _, rfl, _⟩ := id hv
            have hcc := HC.out.1
            clear hv hca
            go_wp2_with fail
            refine (few05_any HV.out).mono ?_
            rintro e w' ⟨Af, nf, cf, rfl, hf, rfl⟩
            have HF := Lib.hid hf
            clear hf
            go_wp2_with (at_builtin; (refine wpList_appV rfl (.tmp 50) (.tmp 57) rfl HE.out (B := wo.heap.size) rfl rfl (hI.out.1.below ((Below.refl _ _).alloc (Nat.le_refl _) _)) (At.box wr #[.slice Af nf cf] rfl).1 rfl (by omega) (by have := hI.out.2.2.size; simp; omega) ?_); intro B2 e2 w2 ho2 hb2)
            have HN := Lib.hid (And.intro ho2 (And.intro (hI.out.2.1.snoc HF.out) ((hI.out.2.2.alloc hI.out.2.2.size _).trans hb2)))
            clear ho2 hb2
            go_roundw
            case rel => exact ⟨kk + 1, B2, e2, _, HN, by omega, by omega, rfl, by go_num⟩
            case measure => simp [intOf]; omega
          · have i2 : ¬ (kk : Int) < 20 := by omega
            have hcc := HC.out.1
            have HLB := Lib.hid (HL1.out.2.2.2.below hI.out.2.2)
            have HO1 := Lib.hid (HL1.out.2.1.below hI.out.2.2)
            have HM := Lib.hid (And.intro hk2 hI.out)
            have HSZ := Lib.hid (And.intro HL1.out.2.2.2.2.1 hI.out.2.2.size)
            have HB1 := Lib.hid (HL1.out.2.2.2.1)
            have hI2 := Lib.hid hI.out.2.2
            obtain ⟨z0a, z0b, z0c⟩ := HLB.out.2.2.1 0 _ rfl
            obtain ⟨z1a, z1b, z1c⟩ := HLB.out.2.2.1 1 _ rfl
            obtain ⟨z2a, z2b, z2c⟩ := HLB.out.2.2.1 2 _ rfl
            obtain ⟨z3a, z3b, z3c⟩ := HLB.out.2.2.1 3 _ rfl
            obtain ⟨z4a, z4b, z4c⟩ := HLB.out.2.2.1 4 _ rfl
            obtain ⟨z5a, z5b, z5c⟩ := HLB.out.2.2.1 5 _ rfl
            obtain ⟨y0a, y0b, y0c⟩ := HLB.out.2.2.2 0 _ rfl
            obtain ⟨y1a, y1b, y1c⟩ := HLB.out.2.2.2 1 _ rfl
            obtain ⟨y2a, y2b, y2c⟩ := HLB.out.2.2.2 2 _ rfl
            obtain ⟨y3a, y3b, y3c⟩ := HLB.out.2.2.2 3 _ rfl
            obtain ⟨y4a, y4b, y4c⟩ := HLB.out.2.2.2 4 _ rfl
            obtain ⟨y5a, y5b, y5c⟩ := HLB.out.2.2.2 5 _ rfl
            clear z0c z1c z2c z3c z4c z5c y0c y1c y2c y3c y4c y5c hI hk hk2 hlt hcc HC
            go_wp2
            refine bodyPost_ret (v := .agg #[.slice A1 n1 c1, .slice A2 n2 c2, .slice A5 n5 c5, .slice _ _ _, .slice B kk q, .int .i64 N]) (by simp [results, Tryz.results6, go_sem, y0a, y1a, y2a, y3a, y4a, y5a]; exact ⟨rfl, rfl, rfl⟩) rfl ?_
            exact less_fin HF1.out HF2.out HF5.out (bt HB1.out hI2.out) HL1.out.1 HL1.out.2.2.1 HO1.out HM.out.1 HM.out.2.2.1 HM.out.2.1 (by have := HSZ.out.1; omega)
        · have i1 : ¬ (kk : Int) < (n4 : Int) := by omega
          have hcc := HC.out.1
          have HLB := Lib.hid (HL1.out.2.2.2.below hI.out.2.2)
          have HO1 := Lib.hid (HL1.out.2.1.below hI.out.2.2)
          have HM := Lib.hid (And.intro hk2 hI.out)
          have HSZ := Lib.hid (And.intro HL1.out.2.2.2.2.1 hI.out.2.2.size)
          have HB1 := Lib.hid (HL1.out.2.2.2.1)
          have hI2 := Lib.hid hI.out.2.2
          obtain ⟨z0a, z0b, z0c⟩ := HLB.out.2.2.1 0 _ rfl
          obtain ⟨z1a, z1b, z1c⟩ := HLB.out.2.2.1 1 _ rfl
          obtain ⟨z2a, z2b, z2c⟩ := HLB.out.2.2.1 2 _ rfl
          obtain ⟨z3a, z3b, z3c⟩ := HLB.out.2.2.1 3 _ rfl
          obtain ⟨z4a, z4b, z4c⟩ := HLB.out.2.2.1 4 _ rfl
          obtain ⟨z5a, z5b, z5c⟩ := HLB.out.2.2.1 5 _ rfl
          obtain ⟨y0a, y0b, y0c⟩ := HLB.out.2.2.2 0 _ rfl
          obtain ⟨y1a, y1b, y1c⟩ := HLB.out.2.2.2 1 _ rfl
          obtain ⟨y2a, y2b, y2c⟩ := HLB.out.2.2.2 2 _ rfl
          obtain ⟨y3a, y3b, y3c⟩ := HLB.out.2.2.2 3 _ rfl
          obtain ⟨y4a, y4b, y4c⟩ := HLB.out.2.2.2 4 _ rfl
          obtain ⟨y5a, y5b, y5c⟩ := HLB.out.2.2.2 5 _ rfl
          clear z0c z1c z2c z3c z4c z5c y0c y1c y2c y3c y4c y5c hI hk hk2 hlt hcc HC
          go_wp2
          refine bodyPost_ret (v := .agg #[.slice A1 n1 c1, .slice A2 n2 c2, .slice A5 n5 c5, .slice _ _ _, .slice B kk q, .int .i64 N]) (by simp [results, Tryz.results6, go_sem, y0a, y1a, y2a, y3a, y4a, y5a]; exact ⟨rfl, rfl, rfl⟩) rfl ?_
          exact less_fin HF1.out HF2.out HF5.out (bt HB1.out hI2.out) HL1.out.1 HL1.out.2.2.1 HO1.out HM.out.1 HM.out.2.2.1 HM.out.2.1 (by have := HSZ.out.1; omega)
end Go.Proofs.YtamfhmmcnlollaaGreat
namespace Go.Proofs.YtamfhmmcnlollaaGreat
open Go.RowKit
set_option linter.unusedVariables false

theorem ext_12_18 {x y : Nat} {neg : Bool} (h : ExtOk 12 18 x y neg) : x = 2 ∧ y = 1 ∧ neg = true := by
  obtain ⟨h1, _, h3⟩ := h
  have e : Nat.gcd 12 18 = 6 := by decide
  rw [e] at h1 h3
  have h4 := h3 (by omega)
  rcases h1 with ⟨h5, h6, h7⟩ | ⟨h5, h6⟩
  · exact ⟨by omega, by omega, h5⟩
  · omega
set_option maxHeartbeats 4000000 in
set_option maxRecDepth 100000 in
theorem fixed05_any {w : World} : Calls Tryz.prog 5 #[] w (Keeps (.bool true) w) := by
  have SQ1 : Hid (nroot 2 (val W [17]) = 4) := by
    show _ = _
    exact nroot_uniq (by omega) (by simp [val]) (by simp [val])
  have SQ2 : Hid (val W [17] - nroot 2 (val W [17]) * nroot 2 (val W [17]) = 1) := by show _ = _; rw [SQ1.out]; simp [val]
  have SQ3 : Hid (Nat.gcd (val W [12]) (val W [18, 0]) = 6) := by show _ = _; simp [val]
  go_enter Tryz.func5, Tryz.ntmps5
  go_wp2_with fail
  refine (extended_any (((Num.lit (t := 41) _ [12] (by simp) (by simp [W_eq, All])).mono (L' := 1) (by simp)).below ((Below.refl _ _).alloc (Nat.le_refl _) _)) ((Num.lit (t := 41) _ [18] (by simp) (by simp [W_eq, All])).mono (L' := 1) (by simp)) (by omega) (by omega)).mono ?_
  rintro e wf ⟨x, y, neg, A1, n1, c1, A2, n2, c2, A3, n3, c3, hok, rfl, ⟨o1, o2, o3⟩, hbf, l1, l2, l3⟩
  obtain ⟨rfl, rfl, rfl⟩ := ext_12_18 hok
  clear hok
  rw [show Nat.gcd (val W [12]) (val W [18]) = 6 by simp [val]] at o1
  go_wp2_with fail
  refine wp_region_grow none [(true, 0), (false, 1), (false, 2), (true, 3), (true, 4), (true, 5), (false, 6), (false, 7), (true, 8), (true, 9), (true, 10), (true, 11), (false, 12), (false, 13), (true, 14), (true, 15)] (by kernel_rfl) (by kernel_rfl) ?_
  repeat (refine ord_pas (by rfl) (fun K hK => ?_); go_simp; refine hK _ _ (fun w' hw' => (by first | (go_simp; done) | (go_simp; intro hh; cases hh))) ?_; clear hK K)
  (refine ord_act (by rfl) (fun K hK => ?_); go_simp)
  refine hK _ _ ⟨Grow.of_below ((Below.refl _ _).alloc (Nat.le_refl _) _), ?_⟩
  clear hK K
  (refine ord_norm (fun K hK => ?_); go_simp; refine hK _ ?_; clear hK K)
  (refine ord_call (by rfl) (fun K hK => ?_); go_simp; refine hK _ _ ?_; clear hK K)
  refine (same5k_any ((((o1.rd.below ((Below.refl _ _).alloc (Nat.le_refl _) (.cells #[.bool false, .slice A2 n2 c2] 60))).below ((Below.refl _ _).alloc (Nat.le_refl _) (.cells #[.bool true, .slice A3 n3 c3] 60))).below (Below.refl _ _).drew).below ((Below.refl _ _).alloc (Nat.le_refl _) _)) (Rd.litn _ [6] (by simp) (by simp)) (dg_small (by omega) (by rw [W_eq]; omega)) (by omega)).mono ?_
  rintro e w1 ⟨rfl, hb1⟩
  refine ⟨_, rfl, Grow.of_below hb1, ?_⟩
  (refine ord_norm (fun K hK => ?_); go_simp; refine hK _ ?_; clear hK K)
  have em_x0 := (((((At.boxc (i := 0) (v := .bool false) (t := 60) (b := wf.heap.size) wf #[.bool false, .slice A2 n2 c2] rfl (by simp)).below ((Below.refl _ _).alloc (Nat.le_refl _) (.cells #[.bool true, .slice A3 n3 c3] 60))).below (Below.refl _ _).drew).below ((Below.refl _ _).alloc (Nat.le_refl _) _)).below hb1).1
  have gm_x0 := At.grow0 (((((At.boxc (i := 0) (v := .bool false) (t := 60) (b := wf.heap.size) wf #[.bool false, .slice A2 n2 c2] rfl (by simp)).below ((Below.refl _ _).alloc (Nat.le_refl _) (.cells #[.bool true, .slice A3 n3 c3] 60))).below (Below.refl _ _).drew).below ((Below.refl _ _).alloc (Nat.le_refl _) _)).below hb1)
  have em_x1 := (((((At.boxc (i := 1) (v := .slice A2 n2 c2) (t := 60) (b := wf.heap.size) wf #[.bool false, .slice A2 n2 c2] rfl (by simp)).below ((Below.refl _ _).alloc (Nat.le_refl _) (.cells #[.bool true, .slice A3 n3 c3] 60))).below (Below.refl _ _).drew).below ((Below.refl _ _).alloc (Nat.le_refl _) _)).below hb1).1
  have gm_x1 := At.grow0 (((((At.boxc (i := 1) (v := .slice A2 n2 c2) (t := 60) (b := wf.heap.size) wf #[.bool false, .slice A2 n2 c2] rfl (by simp)).below ((Below.refl _ _).alloc (Nat.le_refl _) (.cells #[.bool true, .slice A3 n3 c3] 60))).below (Below.refl _ _).drew).below ((Below.refl _ _).alloc (Nat.le_refl _) _)).below hb1)
  repeat (refine ord_pas (by rfl) (fun K hK => ?_); go_simp; refine hK _ _ (fun w' hw' => (by first | (go_simp; done) | (go_simp; intro hh; cases hh))) ?_; clear hK K)
  clear gm_x0 em_x0 gm_x1 em_x1
  (refine ord_call (by rfl) (fun K hK => ?_); go_simp; refine hK _ _ ?_; clear hK K)
  refine (Z5_nat (x := 2) rfl (by omega)).mono ?_
  rintro e w2 ⟨A_zz, n_zz, c_zz, s_zz, rfl, hs_zz, o_zz, hb2, l_zz⟩
  refine ⟨_, rfl, Grow.of_below hb2, ?_⟩
  (refine ord_norm (fun K hK => ?_); go_simp; refine hK _ ?_; clear hK K)
  (refine ord_call (by rfl) (fun K hK => ?_); go_simp; refine hK _ _ ?_; clear hK K)
  refine (sameInt_yes ((((((o2.rd.below ((Below.refl _ _).alloc (Nat.le_refl _) (.cells #[.bool false, .slice A2 n2 c2] 60))).below ((Below.refl _ _).alloc (Nat.le_refl _) (.cells #[.bool true, .slice A3 n3 c3] 60))).below (Below.refl _ _).drew).below ((Below.refl _ _).alloc (Nat.le_refl _) _)).below hb1).below hb2) o_zz.rd hs_zz.out.symm rfl (by omega)).mono ?_
  rintro e w3 ⟨rfl, hb3⟩
  refine ⟨_, rfl, Grow.of_below hb3, ?_⟩
  (refine ord_norm (fun K hK => ?_); go_simp; refine hK _ ?_; clear hK K)
  have em_y0 := ((((((At.boxc (i := 0) (v := .bool true) (t := 60) (b := wf.heap.size + 1) (World.alloc wf (.cells #[.bool false, .slice A2 n2 c2] 60)) #[.bool true, .slice A3 n3 c3] rfl (by simp)).below (Below.refl _ _).drew).below ((Below.refl _ _).alloc (Nat.le_refl _) _)).below hb1).below hb2).below hb3).1
  have gm_y0 := At.grow0 ((((((At.boxc (i := 0) (v := .bool true) (t := 60) (b := wf.heap.size + 1) (World.alloc wf (.cells #[.bool false, .slice A2 n2 c2] 60)) #[.bool true, .slice A3 n3 c3] rfl (by simp)).below (Below.refl _ _).drew).below ((Below.refl _ _).alloc (Nat.le_refl _) _)).below hb1).below hb2).below hb3)
  have em_y1 := ((((((At.boxc (i := 1) (v := .slice A3 n3 c3) (t := 60) (b := wf.heap.size + 1) (World.alloc wf (.cells #[.bool false, .slice A2 n2 c2] 60)) #[.bool true, .slice A3 n3 c3] rfl (by simp)).below (Below.refl _ _).drew).below ((Below.refl _ _).alloc (Nat.le_refl _) _)).below hb1).below hb2).below hb3).1
  have gm_y1 := At.grow0 ((((((At.boxc (i := 1) (v := .slice A3 n3 c3) (t := 60) (b := wf.heap.size + 1) (World.alloc wf (.cells #[.bool false, .slice A2 n2 c2] 60)) #[.bool true, .slice A3 n3 c3] rfl (by simp)).below (Below.refl _ _).drew).below ((Below.refl _ _).alloc (Nat.le_refl _) _)).below hb1).below hb2).below hb3)
  repeat (refine ord_pas (by rfl) (fun K hK => ?_); go_simp; refine hK _ _ (fun w' hw' => (by first | (go_simp; done) | (go_simp; intro hh; cases hh))) ?_; clear hK K)
  clear gm_y0 em_y0 gm_y1 em_y1
  (refine ord_call (by rfl) (fun K hK => ?_); go_simp; refine hK _ _ ?_; clear hK K)
  refine (Z5_neg (x := 1) rfl (by omega) (by omega)).mono ?_
  rintro e w4 ⟨A_ww, n_ww, c_ww, s_ww, rfl, hs_ww, o_ww, hb4, l_ww⟩
  refine ⟨_, rfl, Grow.of_below hb4, ?_⟩
  (refine ord_norm (fun K hK => ?_); go_simp; refine hK _ ?_; clear hK K)
  (refine ord_call (by rfl) (fun K hK => ?_); go_simp; refine hK _ _ ?_; clear hK K)
  refine (sameInt_yes ((((((((o3.rd.below ((Below.refl _ _).alloc (Nat.le_refl _) (.cells #[.bool false, .slice A2 n2 c2] 60))).below ((Below.refl _ _).alloc (Nat.le_refl _) (.cells #[.bool true, .slice A3 n3 c3] 60))).below (Below.refl _ _).drew).below ((Below.refl _ _).alloc (Nat.le_refl _) _)).below hb1).below hb2).below hb3).below hb4) o_ww.rd hs_ww.out.symm rfl (by omega)).mono ?_
  rintro e w5 ⟨rfl, hb5⟩
  refine ⟨_, rfl, Grow.of_below hb5, ?_⟩
  (refine ord_norm (fun K hK => ?_); go_simp; refine hK _ ?_; clear hK K)
  repeat (refine ord_pas (by rfl) (fun K hK => ?_); go_simp; refine hK _ _ (fun w' hw' => (by first | (go_simp; done) | (go_simp; intro hh; cases hh))) ?_; clear hK K)
  refine ord_nil ?_
  go_wp2_with fail
  refine (gsqrt_any ((Num.lit (t := 41) _ [17] (by simp) (by simp [W_eq, All])).mono (L' := 1) (by simp)) (by omega)).mono ?_
  rintro e w6 ⟨A_s, n_s, c_s, A_r, n_r, c_r, rfl, o_s, o_r, hb6, l_s, l_r⟩
  rw [SQ1.out] at o_s
  rw [SQ2.out] at o_r
  go_wp2_with fail
  refine (same5k_any (o_s.rd.below ((Below.refl _ _).alloc (Nat.le_refl _) _)) (Rd.litn _ [4] (by simp) (by simp)) (dg_small (by omega) (by rw [W_eq]; omega)) (by omega)).mono ?_
  rintro e w7 ⟨rfl, hb7⟩
  go_wp2_with fail
  refine (same5k_any (((o_r.rd.below ((Below.refl _ _).alloc (Nat.le_refl _) _)).below hb7).below ((Below.refl _ _).alloc (Nat.le_refl _) _)) (Rd.litn _ [1] (by simp) (by simp)) (dg_small (by omega) (by rw [W_eq]; omega)) (by omega)).mono ?_
  rintro e w8 ⟨rfl, hb8⟩
  go_wp2_with fail
  refine (gcd_any (((Num.lit (t := 41) _ [12] (by simp) (by simp [W_eq, All])).mono (L' := 1) (by simp)).below ((Below.refl _ _).alloc (Nat.le_refl _) _)) ((Num.lit (t := 41) _ [18, 0] (by simp) (by simp [W_eq, All])).mono (L' := 2) (by simp)) (by omega) (by omega)).mono ?_
  rintro e w9 ⟨A_g2, n_g2, c_g2, rfl, o_g2, hb9, l_g2⟩
  rw [SQ3.out] at o_g2
  go_wp2_with fail
  refine (same5k_any (o_g2.rd.below ((Below.refl _ _).alloc (Nat.le_refl _) _)) (Rd.litn _ [6] (by simp) (by simp)) (dg_small (by omega) (by rw [W_eq]; omega)) (by omega)).mono ?_
  rintro e w10 ⟨rfl, hb10⟩
  have dco : decide (Nat.gcd (val W [1]) 0 = 1) = true := by simp [val]
  go_wp2_with fail
  refine (coprime_any ((Num.lit (t := 41) _ [1] (by simp) (by simp [W_eq, All])).mono (L' := 1) (by simp)) Num.nil (by omega) (by omega)).mono ?_
  rintro e w11 ⟨rfl, hb11⟩
  go_wp2
  go_ret
  exact ⟨rfl, (bt (bt (bt (bt (bt (bt (bt (bt (bt (bt (bt (bt (bt (bt (bt (bt (bt (bt (bt (bt (bt (bt (bt (bt ((Below.refl _ _).alloc (Nat.le_refl _) _) ((Below.refl _ _).alloc (Nat.le_refl _) _)) hbf) ((Below.refl _ _).alloc (Nat.le_refl _) (.cells #[.bool false, .slice A2 n2 c2] 60))) ((Below.refl _ _).alloc (Nat.le_refl _) (.cells #[.bool true, .slice A3 n3 c3] 60))) (Below.refl _ _).drew) ((Below.refl _ _).alloc (Nat.le_refl _) _)) hb1) hb2) hb3) hb4) hb5) ((Below.refl _ _).alloc (Nat.le_refl _) _)) hb6) ((Below.refl _ _).alloc (Nat.le_refl _) _)) hb7) ((Below.refl _ _).alloc (Nat.le_refl _) _)) hb8) ((Below.refl _ _).alloc (Nat.le_refl _) _)) ((Below.refl _ _).alloc (Nat.le_refl _) _)) hb9) ((Below.refl _ _).alloc (Nat.le_refl _) _)) hb10) ((Below.refl _ _).alloc (Nat.le_refl _) _)) hb11)⟩
end Go.Proofs.YtamfhmmcnlollaaGreat
namespace Go.Proofs.YtamfhmmcnlollaaGreat
open Go.RowKit
set_option linter.unusedVariables false

/-- an inverse, or none -/
def GInv (w : World) (a m L : Nat) (e : Ending) (w' : World) : Prop :=
  ∃ A n c er, e = .returned (.tuple #[.slice A n c, .int .i64 er]) ∧ Below w.heap.size w w' ∧ n ≤ L ∧
    Hid ((0 < m ∧ Nat.gcd a m = 1 ∧ er = 0 ∧ ∃ x, x < m ∧ Cong m a 1 x ∧ Own .u64 41 w.heap.size w' A n c (dg W x)) ∨ (n = 0 ∧ A = none ∧ c = 0 ∧ (m = 0 ∧ er = 1 ∨ 0 < m ∧ Nat.gcd a m ≠ 1 ∧ er = 4)))
set_option maxHeartbeats 1000000 in
theorem ginverse_any {v u : Value} {a m L K : Nat} {w : World} (h : Num w v a L) (h' : Num w u m K) (hL : L ≤ 268435456) (hK : K ≤ 268435456) :
    Calls Tryz.prog 52 #[v, u] w (GInv w a m K) := by
  have H := Lib.hid h
  have H' := Lib.hid h'
  obtain ⟨_, _, _, _, rfl, _⟩ := id h
  obtain ⟨_, _, _, _, rfl, _⟩ := id h'
  clear h h'
  rcases Nat.eq_zero_or_pos m with hm | hm
  · have HM := Lib.hid hm
    clear hm
    go_enter Tryz.func52, Tryz.ntmps52
    go_wp2_with fail
    refine (isZero_yes H'.out HM.out (by omega)).mono ?_
    rintro e w1 ⟨rfl, hb1⟩
    go_wp2
    go_ret2
    exact ⟨_, _, _, _, rfl, hb1, Nat.zero_le _, .inr ⟨rfl, rfl, rfl, .inl ⟨HM.out, rfl⟩⟩⟩
  · have HM := Lib.hid hm
    clear hm
    obtain ⟨bb, hbb⟩ : ∃ bb, bb = decide (Nat.gcd a m = 1) := ⟨_, rfl⟩
    have CO : Hid (∀ (w : World) (v : Value), Num w v (Nat.gcd a m) K → Calls Tryz.prog 88 #[v] w (Keeps (.bool bb) w)) := fun w v h => by rw [hbb]; exact isOne_any h (by omega)
    have HBB := Lib.hid hbb
    clear hbb
    go_enter Tryz.func52, Tryz.ntmps52
    go_wp2_with fail
    refine (isZero_no H'.out HM.out (by omega)).mono ?_
    rintro e w2 ⟨rfl, hb2⟩
    have HBF := Lib.hid hb2
    go_wp2_with fail
    refine (factor_any (H.out.below hb2) (H'.out.below hb2) HM.out (by omega) (by omega)).mono ?_
    rintro e wf ⟨s, ⟨hs, hc⟩, A_g, n_g, c_g, A_x, n_x, c_x, rfl, o_g, o_x, hbf, l_g, l_x⟩
    have HF := Lib.hid (And.intro hs hc)
    clear hs hc
    have HX := Lib.hid (o_x.mono HBF.out.size)
    clear o_x
    rcases bb with _ | _
    · skip
      go_wp2_with fail
      refine (CO.out _ _ (o_g.num l_g)).mono ?_
      rintro e w3 ⟨rfl, hb3⟩
      go_wp2
      go_ret2
      exact ⟨_, _, _, _, rfl, (bt (bt hb2 hbf) hb3), Nat.zero_le _, .inr ⟨rfl, rfl, rfl, .inr ⟨HM.out, of_decide_eq_false HBB.out.symm, rfl⟩⟩⟩
    · skip
      go_wp2_with fail
      refine (CO.out _ _ (o_g.num l_g)).mono ?_
      rintro e w4 ⟨rfl, hb4⟩
      have HX2 := Lib.hid (HX.out.below hb4)
      go_wp2
      go_ret2
      have hg : Nat.gcd a m = 1 := of_decide_eq_true HBB.out.symm
      have h1 := HF.out.1
      have h2 := HF.out.2
      rw [hg] at h1 h2
      rw [Nat.div_one] at h1
      exact ⟨_, _, _, _, rfl, (bt (bt hb2 hbf) hb4), l_x, .inl ⟨HM.out, hg, rfl, s, h1, h2, HX2.out⟩⟩
/-- how often: b^n * s = a, and b doesn't divide s -/
def CntOk (a b n s : Nat) : Prop := b ^ n * s = a ∧ s % b ≠ 0
theorem CntOk.uniq {a b n s n' s' : Nat} (h : CntOk a b n s) (h' : CntOk a b n' s') (hb : 2 ≤ b) : n = n' ∧ s = s' := by
  have key : ∀ {n s n' s' : Nat}, CntOk a b n s → CntOk a b n' s' → ¬ n < n' := by
    intro n s n' s' h h' hlt
    obtain ⟨k, rfl⟩ : ∃ k, n' = n + (k + 1) := ⟨n' - n - 1, by omega⟩
    have e : b ^ n * s = b ^ n * (b ^ (k + 1) * s') := by rw [h.1, ← h'.1, Nat.pow_add, Nat.mul_assoc]
    have e2 := Nat.eq_of_mul_eq_mul_left (Nat.pow_pos (by omega)) e
    apply h.2
    rw [e2, Nat.pow_succ, Nat.mul_comm (b ^ k), Nat.mul_assoc]
    exact Nat.mul_mod_right _ _
  have hn : n = n' := Nat.le_antisymm (Nat.le_of_not_lt (key h' h)) (Nat.le_of_not_lt (key h h'))
  subst hn
  refine ⟨rfl, Nat.eq_of_mul_eq_mul_left (Nat.pow_pos (by omega)) (h.1.trans h'.1.symm)⟩
theorem cnt_le {a b n s : Nat} (h : b ^ n * s = a) (hb : 2 ≤ b) (ha : 0 < a) : n ≤ nb a := by
  have hs : 0 < s := by
    rcases Nat.eq_zero_or_pos s with h0 | h0
    · subst h0; simp at h; omega
    · exact h0
  have h1 : b ^ n * 1 ≤ b ^ n * s := Nat.mul_le_mul_left _ hs
  have h2 : 2 ^ n ≤ b ^ n := Nat.pow_le_pow_left hb _
  have h3 := nb_lt a
  have := (Nat.pow_lt_pow_iff_right (show 1 < 2 by omega)).1 (show 2 ^ n < 2 ^ nb a by omega)
  omega
def GCnt (w : World) (a b L : Nat) (e : Ending) (w' : World) : Prop :=
  ∃ (n s : Nat) (A : Option Addr) (m c : Nat), e = .returned (.tuple #[.int .i64 (n : Int), .slice A m c, .int .i64 0]) ∧ CntOk a b n s ∧ Own .u64 41 w.heap.size w' A m c (dg W s) ∧ Below w.heap.size w w' ∧ m ≤ L ∧ n ≤ nb a
theorem gcount_zero {v u : Value} {a b L K : Nat} {w : World} (h : Num w v a L) (h' : Num w u b K) (ha : a = 0) (hL : L ≤ 17179869184) : Calls Tryz.prog 55 #[v, u] w (Keeps (.tuple #[.int .i64 0, .slice none 0 0, .int .i64 1]) w) := by
  have H := Lib.hid h
  have HA := Lib.hid ha
  obtain ⟨_, _, _, _, rfl, _⟩ := id h
  obtain ⟨_, _, _, _, rfl, _⟩ := id h'
  clear h h' ha
  go_enter Tryz.func55, Tryz.ntmps55
  go_wp2_with fail
  refine (isZero_yes H.out HA.out (by omega)).mono ?_
  rintro e w1 ⟨rfl, hb1⟩
  go_wp2
  go_ret3
  exact ⟨rfl, hb1⟩
theorem gcount_arg {v u : Value} {a b L K : Nat} {w : World} (h : Num w v a L) (h' : Num w u b K) (ha : 0 < a) (hb : b < 2) (hL : L ≤ 17179869184) (hK : K ≤ 17179869184) : Calls Tryz.prog 55 #[v, u] w (Keeps (.tuple #[.int .i64 0, .slice none 0 0, .int .i64 3]) w) := by
  have H := Lib.hid h
  have H' := Lib.hid h'
  have HA := Lib.hid ha
  obtain ⟨_, _, _, _, rfl, _⟩ := id h
  obtain ⟨_, _, _, _, rfl, _⟩ := id h'
  have hnb : nb b < 2 := by
    rcases (show b = 0 ∨ b = 1 by omega) with h0 | h0
    · rw [h0, nb_zero]; omega
    · rw [h0, nb_one]; omega
  clear h h' ha
  go_enter Tryz.func55, Tryz.ntmps55
  go_wp2_with fail
  refine (isZero_no H.out HA.out (by omega)).mono ?_
  rintro e w1 ⟨rfl, hb1⟩
  have C := Lib.hid (nbits_any (w := w1) (H'.out.below hb1) (by omega))
  have d1 : decide ((nb b : Int) < 2) = true := by simp; omega
  generalize nb b = z at *
  go_wp2_with fail
  refine (C.out).mono ?_
  rintro e w' ⟨rfl, rfl⟩
  go_wp2
  go_ret3
  exact ⟨rfl, hb1⟩
set_option maxHeartbeats 2000000 in
theorem gcount_any {v u : Value} {a b L K : Nat} {w : World} (h : Num w v a L) (h' : Num w u b K) (ha : 0 < a) (hb : 2 ≤ b) (hL : L ≤ 67108864) (hK : K ≤ 67108864) : Calls Tryz.prog 55 #[v, u] w (GCnt w a b L) := by
  have H := Lib.hid h
  have H' := Lib.hid h'
  have HA := Lib.hid ha
  have HB2 := Lib.hid hb
  have hnbL : nb a ≤ 64 * L := nb_W h.lt
  obtain ⟨_, _, _, _, rfl, _⟩ := id h
  obtain ⟨_, _, _, _, rfl, _⟩ := id h'
  have hnb := nb_two hb
  have HNB : Hid (∀ n s, b ^ n * s = a → n ≤ nb a) := fun n s e => cnt_le e hb ha
  clear h h' ha hb
  obtain ⟨Z, hZ⟩ : ∃ Z, Z = nb a := ⟨_, rfl⟩
  rw [← hZ] at hnbL HNB
  have HZ := Lib.hid hZ
  clear hZ
  go_enter Tryz.func55, Tryz.ntmps55
  go_wp2_with fail
  refine (isZero_no H.out HA.out (by omega)).mono ?_
  rintro e w1 ⟨rfl, hb1⟩
  have C := Lib.hid (nbits_any (w := w1) (H'.out.below hb1) (by omega))
  have d1 : decide ((nb b : Int) < 2) = false := by simp; omega
  generalize nb b = z at *
  go_wp2_with fail
  refine (C.out).mono ?_
  rintro e w' ⟨rfl, rfl⟩
  go_wp2_with fail
  refine (nnorm_any (H.out.below hb1) (by omega)).mono ?_
  rintro e w3 ⟨A_s, n_s, c_s, rfl, o_s, hb3, l_s⟩
  have HS := Lib.hid (And.intro (o_s.mono hb1.size) (bt hb1 hb3))
  clear o_s
  go_wp2
  go_loopw [7, 8] (fun nv lv wr => ∃ (n s : Nat) (A : Option Addr) (m c : Nat), Hid (b ^ n * s = a ∧ 0 < s ∧ Own .u64 41 w.heap.size wr A m c (dg W s) ∧ Below w.heap.size w wr) ∧ m ≤ L ∧ n ≤ Z ∧ nv = .int .i64 (n : Int) ∧ lv = .slice A m c) (fun _ lv wr => mval wr lv)
  case atStart => exact ⟨0, a, _, _, _, ⟨by simp, HA.out, HS.out.1, HS.out.2⟩, by omega, Nat.zero_le _, rfl, rfl⟩
  case round =>
    obtain ⟨n, s, A, m, c, hI, hm, hn, rfl, rfl⟩ := hrel
    obtain ⟨wo, hwo⟩ : ∃ wo : World, wo = wr := ⟨_, rfl⟩
    have HN := Lib.hid (hI.out.2.2.1.num hm)
    have HBB := Lib.hid (H'.out.below hI.out.2.2.2)
    have HB0 : Hid (0 < b) := by show _ < _; have := HB2.out; omega
    have CQ := Lib.hid (quo_any HN.out HBB.out HB0.out (by omega) (by omega))
    clear hwo
    go_wp2_with fail
    refine CQ.out.mono ?_
    rintro e w5 ⟨A_q, n_q, c_q, A_r, n_r, c_r, rfl, o_q, o_r, hb5, l_q, l_r⟩
    rcases Nat.eq_zero_or_pos (s % b) with h0 | h0
    · have hz : n_r = 0 := len_zero o_r h0
      have e : s = b * (s / b) := by have := Nat.mod_add_div s b; omega
      have hq0 : 0 < s / b := by
        rcases Nat.eq_zero_or_pos (s / b) with h1 | h1
        · rw [h1, Nat.mul_zero] at e; have := hI.out.2.1; omega
        · exact h1
      have e2 : b ^ (n + 1) * (s / b) = a := by rw [Nat.pow_succ, Nat.mul_assoc, ← e]; exact hI.out.1
      have hn2 := HNB.out _ _ e2
      have HNX : Hid (b ^ (n + 1) * (s / b) = a ∧ 0 < s / b ∧ Own .u64 41 w.heap.size w5 A_q n_q c_q (dg W (s / b)) ∧ Below w.heap.size w w5) := ⟨e2, hq0, o_q.mono hI.out.2.2.2.size, bt hI.out.2.2.2 hb5⟩
      have HMS : Hid (mval w5 (.slice A_q n_q c_q) < mval wr (.slice A m c)) := by
        show _ < _
        rw [mval_num (o_q.num l_q), mval_num HN.out]
        exact Nat.div_lt_self hI.out.2.1 (by have := HB2.out; omega)
      subst hz
      clear h0 e e2 hq0 o_q o_r
      go_wp2
      go_roundw
      case rel => exact ⟨n + 1, _, _, _, _, HNX, by omega, hn2, by go_num, rfl⟩
      case measure => exact HMS.out
    · have hz := len_pos o_r h0
      have HC : Hid (CntOk a b n s ∧ Own .u64 41 w.heap.size w5 A m c (dg W s) ∧ Below w.heap.size w w5) := ⟨⟨hI.out.1, by omega⟩, hI.out.2.2.1.below hb5, bt hI.out.2.2.2 hb5⟩
      have hz2 : (0 : Int) < (n_r : Int) := by omega
      clear h0 o_q o_r
      go_wp2
      go_ret3
      exact ⟨n, s, _, _, _, rfl, HC.out.1, HC.out.2.1, HC.out.2.2, hm, by rw [← HZ.out]; exact hn⟩
end Go.Proofs.YtamfhmmcnlollaaGreat
namespace Go.Proofs.YtamfhmmcnlollaaGreat
open Go.RowKit
set_option linter.unusedVariables false

theorem val_topD (n p : Nat) : val D ((List.replicate (n + 1) 0).set n p) = D ^ n * p := by
  have e : (List.replicate (n + 1) 0).set n p = List.replicate n 0 ++ [p] := by
    rw [List.replicate_succ', List.set_append_right _ _ (by simp)]
    simp
  rw [e, val_append, val_replicate, List.length_replicate]
  simp [val]
theorem nth_setrep (n p : Nat) : nth ((List.replicate (n + 1) 0).set n p) n = p := by
  simp [nth]
theorem two16_split (i : Nat) : D ^ (i / 16) * 2 ^ (i % 16) = 2 ^ i := by
  rw [show D = 2 ^ 16 from rfl, ← Nat.pow_mul, ← Nat.pow_add]
  congr 1; omega
set_option maxHeartbeats 2000000 in
theorem two5_any {i : Nat} {i' : Int} {w : World} (ei : i' = (i : Int)) (hi : i ≤ 4294967296) : Calls Tryz.prog 103 #[.int .i64 i'] w (GN w (2 ^ i) (i / 64 + 1)) := by
  subst ei
  have HE := Lib.hid elI
  have q1 := lay (show (i : Int) / 16 = ((i / 16 : Nat) : Int) by omega)
  have q2 := lay (show (i : Int) % 16 = ((i % 16 : Nat) : Int) by omega)
  have q3 := lay (show (i : Int).tmod 16 = ((i % 16 : Nat) : Int) by rw [Int.tmod_eq_emod_of_nonneg (by omega)]; omega)
  have q4 := lay (show (i : Int).tdiv 16 = ((i / 16 : Nat) : Int) by rw [Int.tdiv_eq_ediv_of_nonneg (by omega)]; omega)
  have hr : i % 16 < 16 := by omega
  have hws : i / 16 ≤ 268435456 := by omega
  have HV : Hid (D ^ (i / 16) * 2 ^ (i % 16) = 2 ^ i) := two16_split i
  have hlen : (i / 16 + 1 + 3) / 4 ≤ i / 64 + 1 := by omega
  generalize i / 64 + 1 = LL at *
  generalize i / 16 = ws at *
  generalize i % 16 = r at *
  generalize 2 ^ i = X at *
  go_enter Tryz.func103, Tryz.ntmps103
  have i0 : (0 : Int) ≤ (ws : Int) := by omega
  have i1 : (ws : Int) < (ws : Int) + 1 := by omega
  go_wp2_with (at_make; refine wpList_mk rfl (.tmp 7) (.tmp 7) rfl HE.out w.heap.size (ws + 1) rfl rfl (by push_cast; rfl) (by push_cast; rfl) (by omega) (Nat.le_refl _) ?_; intro w2 ho2 hg2 hb2; have hfr := ho2.frozen (i := ws); have hcs := ho2.cell (i := ws) (by omega); generalize nth (List.replicate (ws + 1) 0) ws = old at hcs; have HO := Lib.hid (And.intro (ho2.stored (i := ws) (x := 1)) (hb2.setCell (p := ⟨w.heap.size, ws, none⟩) (Nat.le_refl _) (.int .i64 ((1 : Nat) : Int)))); clear ho2 hb2 hg2)
  go_loopw [4] (fun iv wr => ∃ j p : Nat, Hid (p = 2 ^ j ∧ Own .i64 3 w.heap.size wr (some ⟨w.heap.size, 0, none⟩) (ws + 1) (ws + 1) ((List.replicate (ws + 1) 0).set ws p) ∧ Below w.heap.size w wr) ∧ j ≤ r ∧ iv = .int .i64 (j : Int)) (fun iv _ => r - (intOf iv).toNat)
  case atStart => exact ⟨0, 1, ⟨by simp, HO.out.1, HO.out.2⟩, Nat.zero_le _, rfl⟩
  case round =>
    obtain ⟨j, p, hI, hj, rfl⟩ := hrel
    by_cases hlt : j < r
    · have hp : p ≤ 32768 := by
        rw [hI.out.1]
        have : 2 ^ j ≤ 2 ^ 15 := Nat.pow_le_pow_right (by omega) (by omega)
        omega
      have hcell := hI.out.2.1.cell (i := ws) (by omega)
      rw [nth_setrep] at hcell
      have hfr := hI.out.2.1.frozen (i := ws)
      have HNX : Hid (p * 2 = 2 ^ (j + 1) ∧ Own .i64 3 w.heap.size (wr.setCell ⟨w.heap.size, ws, none⟩ (.int .i64 ((p : Int) * 2))) (some ⟨w.heap.size, 0, none⟩) (ws + 1) (ws + 1) ((List.replicate (ws + 1) 0).set ws (p * 2)) ∧ Below w.heap.size w (wr.setCell ⟨w.heap.size, ws, none⟩ (.int .i64 ((p : Int) * 2)))) := by
        refine ⟨by rw [hI.out.1, Nat.pow_succ], ?_, hI.out.2.2.setCell (p := ⟨w.heap.size, ws, none⟩) (Nat.le_refl _) _⟩
        have := hI.out.2.1.stored (i := ws) (x := p * 2)
        rw [List.set_set, Int.natCast_mul] at this
        exact this
      go_wp2
      go_roundw
      case rel => exact ⟨j + 1, p * 2, HNX, by omega, by go_num⟩
      case measure => simp [intOf]; omega
    · obtain rfl : j = r := by omega
      have HD : Hid (Dgs wr (.slice (some ⟨w.heap.size, 0, none⟩) (ws + 1) (ws + 1)) X (ws + 1)) := ⟨_, _, _, _, rfl, hI.out.2.1.rd, (All.replicate (by decide)).set (by
        rw [hI.out.1]
        exact (Nat.pow_lt_pow_iff_right (a := 2) (n := j) (m := 16) (by omega)).2 hr) _, by rw [val_topD, hI.out.1]; exact HV.out, Nat.le_refl _⟩
      go_wp2_with fail
      refine (number5_any HD.out (by omega)).mono ?_
      rintro e w3 ⟨A3, n3, c3, rfl, ho3, hb3, hl3⟩
      have HR : Hid (Own .u64 41 w.heap.size w3 A3 n3 c3 (dg W X) ∧ Below w.heap.size w w3) := ⟨ho3.mono hI.out.2.2.size, bt hI.out.2.2 hb3⟩
      clear ho3 hb3
      go_wp2
      go_ret
      exact ⟨_, _, _, rfl, HR.out.1, HR.out.2, by omega⟩
theorem cmp_eq (x y : Nat) : (cmpN x y == 0) = decide (x = y) := by
  unfold cmpN; split
  · rw [decide_eq_false (by omega)]; decide
  · split
    · rw [decide_eq_false (by omega)]; decide
    · rw [decide_eq_true (by omega)]; decide
theorem cmp_gt (x y : Nat) : decide ((0 : Int) < cmpN x y) = decide (y < x) := by
  unfold cmpN; split
  · rw [decide_eq_false (p := y < x) (by omega)]; decide
  · split
    · rw [decide_eq_true (p := y < x) (by omega)]; decide
    · rw [decide_eq_false (p := y < x) (by omega)]; decide
theorem cmp_leq (x y : Nat) : decide (cmpN x y ≤ 0) = decide (x ≤ y) := by
  unfold cmpN; split
  · rw [decide_eq_true (p := x ≤ y) (by omega)]; decide
  · split
    · rw [decide_eq_false (p := x ≤ y) (by omega)]; decide
    · rw [decide_eq_true (p := x ≤ y) (by omega)]; decide
theorem pow_stop {s i N a : Nat} (h : a < s ^ (i + 1)) (hi : i + 1 ≤ N) : ¬ s ^ N ≤ a := by
  rcases Nat.eq_zero_or_pos s with h0 | h0
  · subst h0; rw [Nat.zero_pow (by omega)] at h; omega
  · have := Nat.pow_le_pow_right h0 hi; omega
set_option maxHeartbeats 2000000 in
theorem below5_any {v u : Value} {s a L M N : Nat} {n' : Int} {w : World} (h : Num w v s L) (h' : Num w u a M) (en : n' = (N : Int)) (hN1 : 1 ≤ N) (hN : N ≤ 4294967296) (hL : L ≤ 268435456) (hM : M ≤ 268435456) :
    Calls Tryz.prog 104 #[v, u, .int .i64 n'] w (Keeps (.bool (decide (s ^ N ≤ a))) w) := by
  subst en
  have H := Lib.hid h
  have H' := Lib.hid h'
  have HLT := Lib.hid h'.lt
  obtain ⟨_, _, _, _, rfl, _⟩ := id h
  obtain ⟨_, _, _, _, rfl, _⟩ := id h'
  clear h h'
  go_enter Tryz.func104, Tryz.ntmps104
  go_wp2_with fail
  refine (word5_any (x := 1) (x' := 1) rfl (by omega)).mono ?_
  rintro e w1 ⟨A_p, n_p, c_p, rfl, o_p, hb1, l_p⟩
  have HP := Lib.hid (And.intro o_p hb1)
  clear o_p
  go_wp2
  go_loopw [7, 8] (fun pv iv wr => ∃ (i : Nat) (A : Option Addr) (m c : Nat), Hid (Own .u64 41 w.heap.size wr A m c (dg W (s ^ i)) ∧ Below w.heap.size w wr ∧ (i = 0 ∨ s ^ i ≤ a)) ∧ i ≤ N ∧ m ≤ M + 1 ∧ pv = .slice A m c ∧ iv = .int .i64 (i : Int)) (fun _ iv _ => N - (intOf iv).toNat)
  case atStart => exact ⟨0, _, _, _, ⟨HP.out.1, HP.out.2, .inl rfl⟩, Nat.zero_le _, by omega, rfl, rfl⟩
  case round =>
    obtain ⟨i, A, m, c, hI, hi, hm, rfl, rfl⟩ := hrel
    by_cases hlt : i < N
    · have HNA := Lib.hid (hI.out.1.num hm)
      have CT := Lib.hid (times5_any HNA.out (H.out.below hI.out.2.1) (by omega) (by omega))
      rw [← Nat.pow_succ] at CT
      go_wp2_with fail
      refine CT.out.mono ?_
      rintro e w3 ⟨A3, n3, c3, rfl, ho3, hb3, hl3⟩
      have HB3 := Lib.hid (bt hI.out.2.1 hb3)
      have HO3 := Lib.hid (ho3.mono hI.out.2.1.size)
      have CC := Lib.hid (cmp5_any (w := w3) (ho3.num hl3) (H'.out.below HB3.out) (by omega) (by omega))
      clear ho3 hb3
      rcases Nat.lt_or_ge a (s ^ (i + 1)) with hc | hc
      · have HF : Hid (decide (s ^ N ≤ a) = false) := decide_eq_false (pow_stop hc hlt)
        obtain ⟨z, hz⟩ : ∃ z, z = cmpN (s ^ (i + 1)) a := ⟨_, rfl⟩
        have d0 : decide ((0 : Int) < z) = true := by rw [hz, cmp_gt]; simpa using hc
        rw [← hz] at CC
        clear hz hc
        go_wp2_with fail
        refine CC.out.mono ?_
        rintro e w4 ⟨rfl, hb4⟩
        have HB4 := Lib.hid (bt HB3.out hb4)
        clear hb4
        go_wp2
        go_ret
        exact ⟨by rw [HF.out]; rfl, HB4.out⟩
      · obtain ⟨z, hz⟩ : ∃ z, z = cmpN (s ^ (i + 1)) a := ⟨_, rfl⟩
        have d0 : decide ((0 : Int) < z) = false := by rw [hz, cmp_gt]; simpa using hc
        rw [← hz] at CC
        have hl : n3 ≤ M + 1 := by
          rw [← HO3.out.len]
          refine dgl (Nat.lt_of_le_of_lt hc (Nat.lt_of_lt_of_le HLT.out (Nat.pow_le_pow_right W_pos (by omega))))
        have HCC := Lib.hid hc
        clear hz hc
        go_wp2_with fail
        refine CC.out.mono ?_
        rintro e w4 ⟨rfl, hb4⟩
        have HNX : Hid (Own .u64 41 w.heap.size w4 A3 n3 c3 (dg W (s ^ (i + 1))) ∧ Below w.heap.size w w4 ∧ (i + 1 = 0 ∨ s ^ (i + 1) ≤ a)) := ⟨HO3.out.below hb4, bt HB3.out hb4, .inr HCC.out⟩
        clear hb4
        go_wp2
        go_roundw
        case rel => exact ⟨i + 1, _, _, _, HNX, hlt, hl, rfl, by go_num⟩
        case measure => simp [intOf]; omega
    · obtain rfl : i = N := by omega
      have HF : Hid (decide (s ^ i ≤ a) = true) := decide_eq_true (hI.out.2.2.resolve_left (by omega))
      go_wp2
      go_ret
      exact ⟨by rw [HF.out]; rfl, hI.out.2.1⟩
set_option maxHeartbeats 1000000 in
theorem pow5_any {v : Value} {x L N : Nat} {n' : Int} {w : World} (h : Num w v x L) (en : n' = (N : Int)) (hN : N ≤ 10000) (hLN : L * N ≤ 1073741824) (hL : L ≤ 1073741824) :
    Calls Tryz.prog 105 #[v, .int .i64 n'] w (GN w (x ^ N) (L * N + 1)) := by
  subst en
  have H := Lib.hid h
  have HX := Lib.hid h.lt
  have C1 := Lib.hid (word5_any (w := w) (x := 1) (x' := 1) rfl (by omega))
  have HLN := Lib.hid hLN
  obtain ⟨_, _, _, _, rfl, _⟩ := id h
  have hlen : ∀ i, i ≤ N → (dg W (x ^ i)).length ≤ L * N + 1 := fun i hi => by
    refine dg_len W_gt ?_
    have h1 : x ^ i ≤ (W ^ L) ^ i := Nat.pow_le_pow_left (Nat.le_of_lt HX.out) i
    rw [← Nat.pow_mul] at h1
    have h2 : W ^ (L * i) ≤ W ^ (L * N) := Nat.pow_le_pow_right W_pos (Nat.mul_le_mul_left _ hi)
    have h3 : W ^ (L * N) < W ^ (L * N + 1) := Nat.pow_lt_pow_right W_gt (by omega)
    omega
  have HLEN := Lib.hid hlen
  clear h hlen hLN
  go_enter Tryz.func105, Tryz.ntmps105
  go_wp2_with fail
  refine C1.out.mono ?_
  rintro e w1 ⟨A1, n1, c1, rfl, ho1, hb1, hl1⟩
  have HO := Lib.hid (And.intro ho1 hb1)
  clear ho1 hb1
  go_wp2
  go_loopw [5, 6] (fun nv iv wr => ∃ (i n c : Nat) (A : Option Addr), Hid (Own .u64 41 w.heap.size wr A n c (dg W (x ^ i)) ∧ Below w.heap.size w wr) ∧ i ≤ N ∧ nv = .slice A n c ∧ iv = .int .i64 (i : Int)) (fun _ iv _ => N - (intOf iv).toNat)
  case atStart => exact ⟨0, _, _, _, ⟨by rw [Nat.pow_zero]; exact HO.out.1, HO.out.2⟩, Nat.zero_le _, rfl, rfl⟩
  case round =>
    obtain ⟨i, n, c, A, hI, hi, rfl, rfl⟩ := hrel
    have hn : n ≤ 2147483648 := by have := HLEN.out i hi; rw [hI.out.1.len] at this; have := HLN.out; omega
    by_cases hlt : i < N
    · have CT := Lib.hid (times5_any (hI.out.1.num (Nat.le_refl _)) (H.out.below hI.out.2) (by omega) (by omega))
      rw [← Nat.pow_succ] at CT
      go_wp2_with fail
      refine CT.out.mono ?_
      rintro e w3 ⟨A3, n3, c3, rfl, ho3, hb3, hl3⟩
      have HN : Hid (Own .u64 41 w.heap.size w3 A3 n3 c3 (dg W (x ^ (i + 1))) ∧ Below w.heap.size w w3) := ⟨ho3.mono hI.out.2.size, bt hI.out.2 hb3⟩
      clear ho3 hb3
      go_wp2
      go_roundw
      case rel => exact ⟨i + 1, _, _, _, HN, hlt, rfl, by go_num⟩
      case measure => simp [intOf]; omega
    · obtain rfl : i = N := by omega
      have HL2 : Hid (n ≤ L * i + 1) := by show _ ≤ _; rw [← hI.out.1.len]; exact HLEN.out i (Nat.le_refl _)
      go_wp2
      go_ret
      exact ⟨_, _, _, rfl, hI.out.1, hI.out.2, HL2.out⟩
theorem num_one_le {v : Value} {x L : Nat} {w : World} (h : Num w v x L) (hx : 0 < x) : 1 ≤ L := by
  have := h.lt
  rcases Nat.eq_zero_or_pos L with h0 | h0
  · rw [h0, Nat.pow_zero] at this; omega
  · exact h0
theorem root5_bad {v : Value} {z : Int} {w : World} (hz : z < 1) : Calls Tryz.prog 44 #[v, .int .i64 z] w (Keeps (.tuple #[.slice none 0 0, .bool false, .int .i64 3]) w) := by
  have d1 : decide (z < 1) = true := by simpa using hz
  go_enter Tryz.func44, Tryz.ntmps44
  go_wp2
  go_ret3
  exact ⟨rfl, Below.refl _ _⟩
set_option maxHeartbeats 2000000 in
theorem root5_few {v : Value} {x L N : Nat} {w : World} (h : Num w v x L) (hN : 1 ≤ N) (hb : nb x < N) (hL1 : 1 ≤ L) (hL : L ≤ 67108864) : Calls Tryz.prog 44 #[v, .int .i64 (N : Int)] w (GRt w N x L) := by
  have H := Lib.hid h
  obtain ⟨_, _, _, _, rfl, _⟩ := id h
  have d1 : decide ((N : Int) < 1) = false := by simp; omega
  have d2 : decide ((nb x : Int) < (N : Int)) = true := by simp; exact hb
  have d2b : decide (nb x < N) = true := by simp; exact hb
  obtain ⟨s, hs⟩ : ∃ s, s = nroot N x := ⟨_, rfl⟩
  have hs1 : s ≤ 1 ∧ min (nb x : Int) 1 = (s : Int) := by
    rcases Nat.eq_zero_or_pos x with h0 | h0
    · subst h0; rw [hs, nroot_zero, nb_zero]; exact ⟨by omega, rfl⟩
    · rw [hs, nroot_big hN h0 (Nat.le_of_lt hb)]; have := nb_pos h0; exact ⟨by omega, by omega⟩
  have em := lay hs1.2
  have hs1 := hs1.1
  have HS := Lib.hid hs
  obtain ⟨bb, hbb⟩ : ∃ bb, bb = decide (nroot N x ^ N = x) := ⟨_, rfl⟩
  obtain ⟨z, hz⟩ : ∃ z, z = cmpN s x := ⟨_, rfl⟩
  have hzb : (z == 0) = bb := by
    rw [hz, cmp_eq, hbb, ← hs]
    have : s ^ N = s := by
      rcases (show s = 0 ∨ s = 1 by omega) with h1 | h1
      · rw [h1, Nat.zero_pow (by omega)]
      · rw [h1, Nat.one_pow]
    rw [this]
  have hzc : decide (z = 0) = bb := by rw [← hzb]; rfl
  have HBB := Lib.hid hbb
  have CC : Hid (∀ (w : World) (v u : Value), Num w v s 1 → Num w u x L → Calls Tryz.prog 101 #[v, u] w (Keeps (.int .i64 z) w)) := fun w v u h1 h2 => by rw [hz]; exact cmp5_any h1 h2 (by omega) (by omega)
  clear hbb hz hs h hb
  go_enter Tryz.func44, Tryz.ntmps44
  have C := Lib.hid (bits5_any (w := w) H.out (by omega))
  generalize nb x = b at *
  go_wp2_with fail
  refine (C.out).mono ?_
  rintro e w1 ⟨rfl, hb1⟩
  go_wp2_with fail
  refine (word5_any (x := s) (x' := (s : Int)) rfl (by omega)).mono ?_
  rintro e w2 ⟨A_r, n_r, c_r, rfl, o_r, hb2, l_r⟩
  go_wp2_with fail
  refine (CC.out _ _ _ (o_r.num l_r) ((H.out.below hb1).below hb2)).mono ?_
  rintro e w3 ⟨rfl, hb3⟩
  go_wp2
  go_ret3
  exact ⟨_, _, _, by rw [← HBB.out]; rfl, by rw [← HS.out]; exact ((o_r.mono hb1.size).below hb3), (bt (bt hb1 hb2) hb3), by omega⟩
set_option maxHeartbeats 4000000 in
theorem root5_in {v : Value} {x L N : Nat} {w : World} (h : Num w v x L) (hN : 1 ≤ N) (hb : N ≤ nb x) (hL1 : 1 ≤ L) (hL : L ≤ 100) : Calls Tryz.prog 44 #[v, .int .i64 (N : Int)] w (GRt w N x L) := by
  have H := Lib.hid h
  have hbL : nb x ≤ 64 * L := nb_W h.lt
  have HLT := Lib.hid h.lt
  obtain ⟨_, _, _, _, rfl, _⟩ := id h
  have q3 : ((N : Int) == 0) = false := by rw [beq_eq_false_iff_ne]; omega
  have d1 : decide ((N : Int) < 1) = false := by simp; omega
  have d2 : decide ((nb x : Int) < (N : Int)) = false := by simp; exact hb
  have d2b : decide (nb x < N) = false := by simp; exact hb
  have HS := Lib.hid (RtI.start (n := N) (a := x) (by omega))
  have hq : nb x / N ≤ nb x := Nat.div_le_self _ _
  have e1 := lay (show (nb x : Int) / (N : Int) = ((nb x / N : Nat) : Int) by rw [Int.natCast_ediv])
  have e2 := lay (show (nb x : Int).tdiv (N : Int) = ((nb x / N : Nat) : Int) by rw [Int.tdiv_eq_ediv_of_nonneg (by omega), Int.natCast_ediv])
  have nz : (N : Int) ≠ 0 := by omega
  have nz3 : ¬ N = 0 := by omega
  have C := Lib.hid (bits5_any (w := w) h (by omega))
  generalize nb x / N = q at *
  generalize nb x = b at *
  clear h
  go_enter Tryz.func44, Tryz.ntmps44
  go_wp2_with fail
  refine (C.out).mono ?_
  rintro e w1 ⟨rfl, hb1⟩
  have HB1 := Lib.hid hb1
  go_wp2
  go_loopw [9, 10] (fun sv iv wr => ∃ (j s : Nat) (A : Option Addr) (m c : Nat), Hid (RtI N x q s j ∧ Own .u64 41 w.heap.size wr A m c (dg W s) ∧ Below w.heap.size w wr) ∧ j ≤ q + 1 ∧ sv = .slice A m c ∧ iv = .int .i64 ((j : Int) - 1)) (fun _ iv _ => (intOf iv + 1).toNat)
  case atStart =>
    refine ⟨q + 1, 0, _, _, _, ⟨HS.out, ?_, bt HB1.out (belowA _ _)⟩, Nat.le_refl _, rfl, by go_num⟩
    show Own _ _ _ _ _ _ _ (dg W 0)
    rw [dg_zero W_gt]
    exact Own.lit (k := .u64) (t := 41) _ [] (by simp [maxLen]) HB1.out.size
  case round =>
    obtain ⟨j, s, A, m, c, hI, hj, rfl, rfl⟩ := hrel
    have lm : m ≤ L := by
      rw [← hI.out.2.1.len]
      refine dgl (Nat.lt_of_le_of_lt ?_ HLT.out)
      have h1 := hI.out.1.1
      rcases Nat.eq_zero_or_pos s with h2 | h2
      · omega
      · have : s ^ 1 ≤ s ^ N := Nat.pow_le_pow_right h2 (by omega)
        rw [Nat.pow_one] at this
        omega
    obtain ⟨wo, rfl⟩ : ∃ wo : World, wo = wr := ⟨_, rfl⟩
    by_cases h0 : j = 0
    · subst h0
      have HF := Lib.hid (hI.out.1.done (by omega))
      have d3 : decide ((0 : Int) ≤ ((0 : Nat) : Int) - 1) = false := by simp
      obtain ⟨bb, hbb⟩ : ∃ bb, bb = decide (nroot N x ^ N = x) := ⟨_, rfl⟩
      obtain ⟨z, hz⟩ : ∃ z, z = cmpN (s ^ N) x := ⟨_, rfl⟩
      have hzb : (z == 0) = bb := by rw [hz, cmp_eq, hbb, HF.out]
      have hzc : decide (z = 0) = bb := by rw [← hzb]; rfl
      have HBB := Lib.hid hbb
      have hLN : m * N ≤ 640000 := by
        have h1 : m * N ≤ 100 * 6400 := Nat.mul_le_mul (by omega) (by omega)
        omega
      have CC : Hid (∀ (w : World) (v u : Value), Num w v (s ^ N) (m * N + 1) → Num w u x L → Calls Tryz.prog 101 #[v, u] w (Keeps (.int .i64 z) w)) := fun w v u h1 h2 => by rw [hz]; exact cmp5_any h1 h2 (by omega) (by omega)
      clear hbb hz
      go_wp2_with fail
      refine (pow5_any (N := N) (hI.out.2.1.num (Nat.le_refl _)) rfl (by omega) (by omega) (by omega)).mono ?_
      rintro e w1 ⟨A_p, n_p, c_p, rfl, o_p, hb1, l_p⟩
      go_wp2_with fail
      refine (CC.out _ _ _ (o_p.num l_p) ((H.out.below hI.out.2.2).below hb1)).mono ?_
      rintro e w2 ⟨rfl, hb2⟩
      have HR : Hid (Own .u64 41 w.heap.size w2 A m c (dg W (nroot N x)) ∧ Below w.heap.size w w2) := ⟨by rw [← HF.out]; exact hI.out.2.1.below (bt hb1 hb2), bt hI.out.2.2 (bt hb1 hb2)⟩
      clear o_p
      go_wp2
      go_ret3
      exact ⟨_, _, _, by rw [← HBB.out]; rfl, HR.out.1, HR.out.2, lm⟩
    · obtain ⟨k, rfl⟩ : ∃ k, j = k + 1 := ⟨j - 1, by omega⟩
      have ei : ((k + 1 : Nat) : Int) - 1 = (k : Int) := by omega
      rw [ei]
      have d3 : decide ((0 : Int) ≤ (k : Int)) = true := by simp
      have HTL := Lib.hid (two_W hI.out.1.next_lt)
      clear h0 ei
      go_wp2_with fail
      refine (two5_any (i := k) rfl (by omega)).mono ?_
      rintro e w3 ⟨A_t, n_t, c_t, rfl, o_t, hb3, l_t⟩
      go_wp2_with fail
      refine (plus5_any ((hI.out.2.1.num lm).below hb3) (o_t.num l_t) (by omega) (by omega)).mono ?_
      rintro e w4 ⟨A_u, n_u, c_u, rfl, o_u, hb4, l_u⟩
      have lu : Hid (n_u ≤ q / 64 + 2) := by show _ ≤ _; rw [← o_u.len]; have := dgl HTL.out; omega
      by_cases hc : (s + 2 ^ k) ^ N ≤ x
      · have CB : Hid (∀ (w : World) (v u : Value), Num w v (s + 2 ^ k) (q / 64 + 2) → Num w u x L → Calls Tryz.prog 104 #[v, u, .int .i64 (N : Int)] w (Keeps (.bool true) w)) := fun w v u h1 h2 => by
          have := below5_any (N := N) h1 h2 rfl hN (by omega) (by omega) (by omega)
          rwa [decide_eq_true hc] at this
        have HC := Lib.hid (hI.out.1.up hc)
        clear hc
        go_wp2_with fail
        refine (CB.out _ _ _ (o_u.num (L := q / 64 + 2) lu.out) (((H.out.below hI.out.2.2).below hb3).below hb4)).mono ?_
        rintro e w5 ⟨rfl, hb5⟩
        have HNEW : Hid (RtI N x q (s + 2 ^ k) k ∧ Own .u64 41 w.heap.size w5 A_u n_u c_u (dg W (s + 2 ^ k)) ∧ Below w.heap.size w w5) := ⟨HC.out, ((o_u.mono hb3.size).below hb5).mono hI.out.2.2.size, bt hI.out.2.2 (bt (bt hb3 hb4) hb5)⟩
        clear o_u o_t
        go_wp2
        go_roundw
        case rel => exact ⟨k, _, _, _, _, HNEW, by omega, rfl, rfl⟩
        case measure => simp [intOf]
      · have CB : Hid (∀ (w : World) (v u : Value), Num w v (s + 2 ^ k) (q / 64 + 2) → Num w u x L → Calls Tryz.prog 104 #[v, u, .int .i64 (N : Int)] w (Keeps (.bool false) w)) := fun w v u h1 h2 => by
          have := below5_any (N := N) h1 h2 rfl hN (by omega) (by omega) (by omega)
          rwa [decide_eq_false hc] at this
        have HC := Lib.hid (hI.out.1.stay (by omega))
        clear hc
        go_wp2_with fail
        refine (CB.out _ _ _ (o_u.num (L := q / 64 + 2) lu.out) (((H.out.below hI.out.2.2).below hb3).below hb4)).mono ?_
        rintro e w6 ⟨rfl, hb6⟩
        have HNEW : Hid (RtI N x q s k ∧ Own .u64 41 w.heap.size w6 A m c (dg W s) ∧ Below w.heap.size w w6) := ⟨HC.out, hI.out.2.1.below (bt (bt hb3 hb4) hb6), bt hI.out.2.2 (bt (bt hb3 hb4) hb6)⟩
        clear o_u o_t
        go_wp2
        go_roundw
        case rel => exact ⟨k, _, _, _, _, HNEW, by omega, rfl, rfl⟩
        case measure => simp [intOf]
theorem root5_any {v : Value} {x L N : Nat} {n' : Int} {w : World} (h : Num w v x L) (en : n' = (N : Int)) (hN : 1 ≤ N) (hL1 : 1 ≤ L) (hL : L ≤ 100) : Calls Tryz.prog 44 #[v, .int .i64 n'] w (GRt w N x L) := by
  subst en
  rcases Nat.lt_or_ge (nb x) N with h2 | h2
  · exact root5_few h hN h2 hL1 (by omega)
  · exact root5_in h hN h2 hL1 hL
theorem sqrt5_any {v : Value} {x L : Nat} {w : World} (h : Num w v x L) (hL1 : 1 ≤ L) (hL : L ≤ 100) : Calls Tryz.prog 43 #[v] w (GN2 w (nroot 2 x) L (x - nroot 2 x * nroot 2 x) L) := by
  have HLE : Hid (nroot 2 x * nroot 2 x ≤ x) := by
    show _ ≤ _
    have := (nroot_spec (n := 2) (by omega) x).1
    rwa [Nat.pow_two] at this
  have H := Lib.hid h
  obtain ⟨_, _, _, _, rfl, _⟩ := id h
  clear h
  go_enter Tryz.func43, Tryz.ntmps43
  go_wp2_with fail
  refine (root5_any (N := 2) (n' := 2) H.out rfl (by omega) hL1 hL).mono ?_
  rintro e ws ⟨A_s, n_s, c_s, rfl, o_s, hbs, l_s⟩
  generalize decide (nroot 2 x ^ 2 = x) = ex
  go_wp2_with fail
  refine (norm5_any (H.out.below hbs) (by omega)).mono ?_
  rintro e w1 ⟨A_nn, n_nn, c_nn, rfl, o_nn, hb1, l_nn⟩
  go_wp2_with fail
  refine (times5_any ((o_s.num l_s).below hb1) ((o_s.num l_s).below hb1) (by omega) (by omega)).mono ?_
  rintro e w2 ⟨A_t, n_t, c_t, rfl, o_t, hb2, l_t⟩
  go_wp2_with fail
  refine (minus5_any ((o_nn.num l_nn).below hb2) (o_t.num l_t) HLE.out hL1 (by omega) (by omega)).mono ?_
  rintro e w3 ⟨A_d, n_d, c_d, rfl, o_d, hb3, l_d⟩
  have HO := Lib.hid (o_s.below (bt (bt hb1 hb2) hb3))
  go_wp2
  go_ret2
  exact ⟨_, _, _, _, _, _, rfl, HO.out, (o_d.mono (bt (bt hbs hb1) hb2).size), (bt (bt (bt hbs hb1) hb2) hb3), l_s, l_d⟩
theorem count5_zero {v u : Value} {a b L K : Nat} {w : World} (h : Num w v a L) (h' : Num w u b K) (ha : a = 0) (hL : L ≤ 17179869184) : Calls Tryz.prog 45 #[v, u] w (Keeps (.tuple #[.int .i64 0, .slice none 0 0, .int .i64 1]) w) := by
  have H := Lib.hid h
  obtain ⟨_, _, _, _, rfl, _⟩ := id h
  obtain ⟨_, _, _, _, rfl, _⟩ := id h'
  have q0 : decide (a = 0) = true := by simpa using ha
  clear h h' ha
  go_enter Tryz.func45, Tryz.ntmps45
  go_wp2_with fail
  refine (zero5_any H.out (by omega)).mono ?_
  rintro e w1 ⟨rfl, hb1⟩
  go_wp2
  go_ret3
  exact ⟨rfl, hb1⟩
theorem count5_arg {v u : Value} {a b L K : Nat} {w : World} (h : Num w v a L) (h' : Num w u b K) (ha : 0 < a) (hb : b < 2) (hL : L ≤ 17179869184) (hK : K ≤ 17179869184) : Calls Tryz.prog 45 #[v, u] w (Keeps (.tuple #[.int .i64 0, .slice none 0 0, .int .i64 3]) w) := by
  have H := Lib.hid h
  have H' := Lib.hid h'
  obtain ⟨_, _, _, _, rfl, _⟩ := id h
  obtain ⟨_, _, _, _, rfl, _⟩ := id h'
  have q0 : decide (a = 0) = false := by simp; omega
  obtain ⟨z, hz⟩ : ∃ z, z = cmpN b 1 := ⟨_, rfl⟩
  have d0 : decide (z ≤ (0 : Int)) = true := by rw [hz, cmp_leq]; simp; omega
  have CC : Hid (∀ (w : World) (v u : Value), Num w v b K → Num w u 1 1 → Calls Tryz.prog 101 #[v, u] w (Keeps (.int .i64 z) w)) := fun w v u h1 h2 => by rw [hz]; exact cmp5_any h1 h2 (by omega) (by omega)
  clear h h' ha hb hz
  go_enter Tryz.func45, Tryz.ntmps45
  go_wp2_with fail
  refine (zero5_any H.out (by omega)).mono ?_
  rintro e w1 ⟨rfl, hb1⟩
  go_wp2_with fail
  refine (word5_any (x := 1) (x' := 1) rfl (by omega)).mono ?_
  rintro e w2 ⟨A_o, n_o, c_o, rfl, o_o, hb2, l_o⟩
  go_wp2_with fail
  refine (CC.out _ _ _ ((H'.out.below hb1).below hb2) (o_o.num l_o)).mono ?_
  rintro e w3 ⟨rfl, hb3⟩
  go_wp2
  go_ret3
  exact ⟨rfl, (bt (bt hb1 hb2) hb3)⟩
set_option maxHeartbeats 2000000 in
theorem count5_any {v u : Value} {a b L K : Nat} {w : World} (h : Num w v a L) (h' : Num w u b K) (ha : 0 < a) (hb : 2 ≤ b) (hL : L ≤ 67108864) (hK : K ≤ 67108864) : Calls Tryz.prog 45 #[v, u] w (GCnt w a b L) := by
  have hL1 : 1 ≤ L := num_one_le h ha
  have hK1 : 1 ≤ K := num_one_le h' (by omega)
  have H := Lib.hid h
  have H' := Lib.hid h'
  obtain ⟨_, _, _, _, rfl, _⟩ := id h
  obtain ⟨_, _, _, _, rfl, _⟩ := id h'
  have q0 : decide (a = 0) = false := by simp; omega
  obtain ⟨z, hz⟩ : ∃ z, z = cmpN b 1 := ⟨_, rfl⟩
  have d0 : decide (z ≤ (0 : Int)) = false := by rw [hz, cmp_leq]; simp; omega
  have CC : Hid (∀ (w : World) (v u : Value), Num w v b K → Num w u 1 1 → Calls Tryz.prog 101 #[v, u] w (Keeps (.int .i64 z) w)) := fun w v u h1 h2 => by rw [hz]; exact cmp5_any h1 h2 (by omega) (by omega)
  have HA := Lib.hid ha
  have HB2 := Lib.hid hb
  have HNB : Hid (∀ n s, b ^ n * s = a → n ≤ nb a) := fun n s e => cnt_le e hb ha
  have HB0 : Hid (0 < b) := by show _ < _; omega
  have hnbL : nb a ≤ 64 * L := nb_W h.lt
  obtain ⟨Z, hZ⟩ : ∃ Z, Z = nb a := ⟨_, rfl⟩
  rw [← hZ] at hnbL HNB
  have HZ := Lib.hid hZ
  clear h h' ha hb hz hZ
  go_enter Tryz.func45, Tryz.ntmps45
  go_wp2_with fail
  refine (zero5_any H.out (by omega)).mono ?_
  rintro e w1 ⟨rfl, hb1⟩
  go_wp2_with fail
  refine (word5_any (x := 1) (x' := 1) rfl (by omega)).mono ?_
  rintro e w2 ⟨A_o, n_o, c_o, rfl, o_o, hb2, l_o⟩
  go_wp2_with fail
  refine (CC.out _ _ _ ((H'.out.below hb1).below hb2) (o_o.num l_o)).mono ?_
  rintro e w3 ⟨rfl, hb3⟩
  go_wp2_with fail
  refine (norm5_any (((H.out.below hb1).below hb2).below hb3) (by omega)).mono ?_
  rintro e w4 ⟨A_s, n_s, c_s, rfl, o_s, hb4, l_s⟩
  have HS := Lib.hid (And.intro (o_s.mono (bt (bt hb1 hb2) hb3).size) (bt (bt (bt hb1 hb2) hb3) hb4))
  clear o_s o_o
  go_wp2
  go_loopw [7, 8] (fun nv lv wr => ∃ (n s : Nat) (A : Option Addr) (m c : Nat), Hid (b ^ n * s = a ∧ 0 < s ∧ Own .u64 41 w.heap.size wr A m c (dg W s) ∧ Below w.heap.size w wr) ∧ m ≤ L ∧ n ≤ Z ∧ nv = .int .i64 (n : Int) ∧ lv = .slice A m c) (fun _ lv wr => mval wr lv)
  case atStart => exact ⟨0, a, _, _, _, ⟨by simp, HA.out, HS.out.1, HS.out.2⟩, by omega, Nat.zero_le _, rfl, rfl⟩
  case round =>
    obtain ⟨n, s, A, m, c, hI, hm, hn, rfl, rfl⟩ := hrel
    obtain ⟨wo, rfl⟩ : ∃ wo : World, wo = wr := ⟨_, rfl⟩
    have HN := Lib.hid (hI.out.2.2.1.num hm)
    rcases Nat.eq_zero_or_pos (s % b) with h0 | h0
    · have CZ : Hid (∀ (w : World) (v : Value), Num w v (s % b) K → Calls Tryz.prog 89 #[v] w (Keeps (.bool true) w)) := fun w v h => by
        have := zero5_any h (by omega)
        rwa [decide_eq_true h0] at this
      have HS1 : Hid (b ^ (n + 1) * (s / b) = a ∧ 0 < s / b ∧ s / b < s) := by
        have e : s = b * (s / b) := by have := Nat.mod_add_div s b; omega
        refine ⟨by rw [Nat.pow_succ, Nat.mul_assoc, ← e]; exact hI.out.1, ?_, Nat.div_lt_self hI.out.2.1 HB2.out⟩
        rcases Nat.eq_zero_or_pos (s / b) with h1 | h1
        · rw [h1, Nat.mul_zero] at e; have := hI.out.2.1; omega
        · exact h1
      have hn2 := HNB.out _ _ HS1.out.1
      clear h0
      go_wp2_with fail
      refine (quo5_any HN.out (H'.out.below hI.out.2.2.2) HB0.out (by omega) (by omega) hL1 hK1).mono ?_
      rintro e w1 ⟨A_q, n_q, c_q, A_r, n_r, c_r, rfl, o_q, o_r, hb1, l_q, l_r⟩
      go_wp2_with fail
      refine (CZ.out _ _ (o_r.num l_r)).mono ?_
      rintro e w2 ⟨rfl, hb2⟩
      have HNX : Hid (b ^ (n + 1) * (s / b) = a ∧ 0 < s / b ∧ Own .u64 41 w.heap.size w2 A_q n_q c_q (dg W (s / b)) ∧ Below w.heap.size w w2) := ⟨HS1.out.1, HS1.out.2.1, (o_q.below hb2).mono hI.out.2.2.2.size, bt hI.out.2.2.2 (bt hb1 hb2)⟩
      have HMS : Hid (mval w2 (.slice A_q n_q c_q) < mval wo (.slice A m c)) := by
        show _ < _
        rw [mval_num (HNX.out.2.2.1.num l_q), mval_num HN.out]
        exact HS1.out.2.2
      clear o_q o_r
      go_wp2
      go_roundw
      case rel => exact ⟨n + 1, _, _, _, _, HNX, by omega, hn2, by go_num, rfl⟩
      case measure => exact HMS.out
    · have CZ : Hid (∀ (w : World) (v : Value), Num w v (s % b) K → Calls Tryz.prog 89 #[v] w (Keeps (.bool false) w)) := fun w v h => by
        have := zero5_any h (by omega)
        rwa [decide_eq_false (by omega)] at this
      have HZ0 : Hid (s % b ≠ 0) := by show _ ≠ _; omega
      clear h0
      go_wp2_with fail
      refine (quo5_any HN.out (H'.out.below hI.out.2.2.2) HB0.out (by omega) (by omega) hL1 hK1).mono ?_
      rintro e w3 ⟨A_q, n_q, c_q, A_r, n_r, c_r, rfl, o_q, o_r, hb3, l_q, l_r⟩
      go_wp2_with fail
      refine (CZ.out _ _ (o_r.num l_r)).mono ?_
      rintro e w4 ⟨rfl, hb4⟩
      have HC : Hid (CntOk a b n s ∧ Own .u64 41 w.heap.size w4 A m c (dg W s) ∧ Below w.heap.size w w4) := ⟨⟨hI.out.1, HZ0.out⟩, hI.out.2.2.1.below (bt hb3 hb4), bt hI.out.2.2.2 (bt hb3 hb4)⟩
      clear o_q o_r
      go_wp2
      go_ret3
      exact ⟨n, s, _, _, _, rfl, HC.out.1, HC.out.2.1, HC.out.2.2, hm, by rw [← HZ.out]; exact hn⟩
theorem cnt_exists {a b : Nat} (ha : 0 < a) (hb : 2 ≤ b) : ∃ n s, CntOk a b n s := by
  induction a using Nat.strongRecOn with
  | _ a ih =>
    by_cases h : a % b = 0
    · have e : a = b * (a / b) := by have := Nat.mod_add_div a b; omega
      have h1 : 0 < a / b := by
        rcases Nat.eq_zero_or_pos (a / b) with h1 | h1
        · rw [h1, Nat.mul_zero] at e; omega
        · exact h1
      obtain ⟨n, s, h2, h3⟩ := ih (a / b) (Nat.div_lt_self ha hb) h1
      exact ⟨n + 1, s, by rw [Nat.pow_succ, Nat.mul_comm _ b, Nat.mul_assoc, h2, ← e], h3⟩
    · exact ⟨0, a, by simp, h⟩
/-- a slice to read, a Bool (a count), an error's number -/
def GRx (w : World) (xs : List Nat) (ex : Bool) (er : Int) (L : Nat) (e : Ending) (w' : World) : Prop :=
  ∃ A n c, e = .returned (.tuple #[.slice A n c, .bool ex, .int .i64 er]) ∧ Below w.heap.size w w' ∧ n ≤ L ∧ Rd .u64 w' A n c xs
def GCx (w : World) (xs : List Nat) (cn er : Int) (L : Nat) (e : Ending) (w' : World) : Prop :=
  ∃ A n c, e = .returned (.tuple #[.int .i64 cn, .slice A n c, .int .i64 er]) ∧ Below w.heap.size w w' ∧ n ≤ L ∧ Rd .u64 w' A n c xs
theorem rd_none {k : IntKind} {w : World} : Rd k w none 0 0 [] := Rd.nil
end Go.Proofs.YtamfhmmcnlollaaGreat
namespace Go.Proofs.YtamfhmmcnlollaaGreat
open Go.RowKit
set_option linter.unusedVariables false

/-- block b holds cells of the type T -/
def BoxT (T : TypeId) (b : Nat) (w : World) : Prop := ∃ vs z, w.heap[b]? = some (.cells vs T z)
theorem BoxT.lt {T : TypeId} {b : Nat} {w : World} (h : BoxT T b w) : b < w.heap.size := by
  obtain ⟨vs, z, h⟩ := h
  exact (Array.getElem?_eq_some_iff.1 h).1
theorem BoxT.set {T : TypeId} {b : Nat} {w : World} {p : Addr} {u : Value} (h : BoxT T b w) : BoxT T b (w.setCell p u) := by
  obtain ⟨vs, z, h⟩ := h
  unfold BoxT World.setCell
  rw [Array.getElem?_modify]
  split
  · rw [h]; exact ⟨_, _, rfl⟩
  · exact ⟨_, _, h⟩
theorem Own.set_ty {k : IntKind} {t T : TypeId} {B n c : Nat} {w : World} {A : Option Addr} {xs : List Nat} {p : Addr} {u : Value} (h : Own k t B w A n c xs) (hb : BoxT T p.block w) (hT : T ≠ t) : Own k t B (w.setCell p u) A n c xs := by
  refine ⟨h.1, ?_⟩
  rcases h.2 with h2 | ⟨g, cap, cur, hv, hg, hh, r⟩
  · exact .inl h2
  · refine .inr ⟨g, cap, cur, hv, hg, ?_, r⟩
    rw [Below.heap_setCell w p u g (by
      rintro rfl
      obtain ⟨vs, z, hb⟩ := hb
      rw [hb] at hh
      injection hh with hh
      injection hh with _ hh
      exact hT hh)]
    exact hh
theorem Cel.at {w : World} {p : Addr} {v : Value} (h : Cel w p v) : At w p v := ⟨h.1, h.2.2⟩
/-- a variable's new memory -/
def FBox (B : Nat) (T : TypeId) (vs : Array Value) (v : Value) (w : World) : Prop := ∃ b, v = .pointer (some ⟨b, 0, none⟩) ∧ B ≤ b ∧ w.heap[b]? = some (.cells vs T (0, 0))
theorem FBox.grow {B : Nat} {T : TypeId} {vs : Array Value} {v : Value} {w w' : World} (h : FBox B T vs v w) (hR : Grow none w w') : FBox B T vs v w' := by
  obtain ⟨b, e, hB, hh⟩ := h
  obtain ⟨_, _, _, _, h5⟩ := hR
  exact ⟨b, e, hB, (h5 b (Array.getElem?_eq_some_iff.1 hh).1 (by simp)).trans hh⟩
theorem cel_of {T : TypeId} {vs : Array Value} {w : World} {b j : Nat} {u : Value} (h : w.heap[b]? = some (.cells vs T (0, 0))) (hj : vs[j]? = some u) : Cel w ⟨b, j, none⟩ u := by
  refine ⟨?_, ?_, (Array.getElem?_eq_some_iff.1 h).1⟩
  · simp only [World.cell?, h, hj]; rfl
  · simp only [World.frozen?, h]; simp
theorem At.growB {w : World} {p : Addr} {v : Value} (h : At w p v) : ∀ w', KB w.heap.size w.drew w' → w'.cell? p = some v := fun w' g => (g.cell (p := p) h.2 h.2).trans h.1
section
variable {P : Program} {l : List Oper} {Q : Exit → Act → World → Prop} {R R1 : World → World → Prop} {G : Nat → Value → World → Prop}
theorem flt_alloc {i : Nat} {o : Oper} {rest : List (Nat × Nat)} {a : Act} {w : World} (B : Nat) (T : TypeId) (vs : Array Value) (ho' : opAt l i = some o) (hg : o.guard = none)
    (hrun : ∀ w1, (execOp a.eval o).run P w1 = .ok (.value (.pointer (some ⟨w1.heap.size, 0, none⟩))) (w1.alloc (.cells vs T))) (hB : B ≤ w.heap.size)
    (h : wpF P l.toArray Q R (Grow none) rest (fun j => if j = i then FBox B T vs else G j) a w) : wpF P l.toArray Q R (Grow none) ((2, i) :: rest) G a w := by
  have ho : l.toArray[i]? = some o := (opAt_eq l i).trans ho'
  refine ⟨o, ho, FBox B T vs, fun v w w' hF hR => FBox.grow hF hR, ⟨by simp [Region.wanted, hg], fun w1 h1 => ?_⟩, h⟩
  refine ⟨_, _, hrun w1, Grow.of_below ((Below.refl _ _).alloc (Nat.le_refl _) _), ⟨_, rfl, Nat.le_trans hB h1.below.size, heap_alloc_new _ _⟩, fun p hp => ?_⟩
  injection hp with hp
  subst hp
  exact ⟨Nat.le_refl _, by simp⟩
end
/-- all but two blocks stay -/
def KE (b1 b2 : Nat) (w w' : World) : Prop := (w'.os = w.os ∧ w'.tape = w.tape ∧ w'.output = w.output) ∧ w.heap.size ≤ w'.heap.size ∧ ∀ i, i ≠ b1 → i ≠ b2 → i < w.heap.size → w'.heap[i]? = w.heap[i]?
theorem KE.refl (b1 b2 : Nat) (w : World) : KE b1 b2 w w := ⟨⟨rfl, rfl, rfl⟩, Nat.le_refl _, fun _ _ _ _ => rfl⟩
theorem KE.trans (b1 b2 : Nat) (a b c : World) (h : KE b1 b2 a b) (k : KE b1 b2 b c) : KE b1 b2 a c :=
  ⟨⟨k.1.1.trans h.1.1, k.1.2.1.trans h.1.2.1, k.1.2.2.trans h.1.2.2⟩, Nat.le_trans h.2.1 k.2.1, fun i h1 h2 hl => (k.2.2 i h1 h2 (Nat.lt_of_lt_of_le hl h.2.1)).trans (h.2.2 i h1 h2 hl)⟩
theorem KE.of_grow (b1 b2 : Nat) (a b : World) (h : Grow none a b) : KE b1 b2 a b := by
  obtain ⟨h1, h2, h3, h4, h5⟩ := h
  exact ⟨⟨h1, h2, h3⟩, h4, fun i _ _ hl => h5 i hl (by simp)⟩
theorem KE.set2 {b1 b2 b i j : Nat} {w : World} {u1 u2 : Value} (hb : b = b1 ∨ b = b2) : KE b1 b2 w ((w.setCell ⟨b, i, none⟩ u1).setCell ⟨b, j, none⟩ u2) :=
  ⟨⟨rfl, rfl, rfl⟩, by simp [World.setCell], fun k h1 h2 _ => by
    rw [Below.heap_setCell _ _ _ k (by show k ≠ b; omega), Below.heap_setCell _ _ _ k (by show k ≠ b; omega)]⟩
theorem At.growE {w : World} {p : Addr} {v : Value} {b1 b2 : Nat} (h : At w p v) (h1 : p.block ≠ b1) (h2 : p.block ≠ b2) : ∀ w', KE b1 b2 w.drew w' → w'.cell? p = some v := fun w' g => by
  have e := g.2.2 p.block h1 h2 h.2
  have := h.1
  unfold World.cell? at this ⊢
  rw [e]
  exact this
section
variable {P : Program} {l : List Oper} {Q : Exit → Act → World → Prop} {R1 : World → World → Prop} {G : Nat → Value → World → Prop} {b1 b2 : Nat}
theorem flt_pasE {i : Nat} {o : Oper} {rest : List (Nat × Nat)} {a : Act} {w : World} (ho' : opAt l i = some o)
    (h : ∀ K : Value → Act → Prop, (∀ v a', (∀ w', KE b1 b2 w w' → if Region.wanted o (yielded l.toArray a.tmps) then pasOf (· = v) w' ((execOp a.eval o).run P w') else undef = v) → wpF P l.toArray Q (KE b1 b2) R1 rest G a' w → K v a') →
      if Region.wanted o (yielded l.toArray a.tmps) then pasOf (fun v => K v (a.put o.dst v)) w ((execOp a.eval o).run P w) else K undef (a.put o.dst undef)) : wpF P l.toArray Q (KE b1 b2) R1 ((0, i) :: rest) G a w := flt_pas ho' h (KE.refl _ _ _)
end
theorem KB.set2 {B b i j : Nat} {w : World} {u1 u2 : Value} (hb : B ≤ b) : KB B w ((w.setCell ⟨b, i, none⟩ u1).setCell ⟨b, j, none⟩ u2) :=
  KB.of_le (((Below.refl B w).setCell (p := ⟨b, i, none⟩) hb u1).setCell (p := ⟨b, j, none⟩) hb u2) (Nat.le_refl _)
theorem KB.below {B : Nat} {w w' : World} (h : KB B w w') (hB : w.heap.size ≤ B) : Below w.heap.size w w' :=
  ⟨h.1.1, h.1.2.1, h.1.2.2, h.2.1, fun i hi => h.2.2 i (Nat.lt_of_lt_of_le hi hB) hi⟩
end Go.Proofs.YtamfhmmcnlollaaGreat
namespace Go.Proofs.YtamfhmmcnlollaaGreat
open Go.RowKit
set_option linter.unusedVariables false

set_option maxHeartbeats 400000 in
theorem neg5_any {A : Option Addr} {n c x L : Nat} {s : Bool} {z : Int} {w : World} (h : Num w (.slice A n c) x L) (hz : sg s x = z) (hL : L ≤ 17179869184) :
    Calls Tryz.prog 131 #[.agg #[.bool s, .slice A n c]] w (GI w (-z) L) := by
  subst hz
  have H := Lib.hid h
  clear h
  go_enter Tryz.func131, Tryz.ntmps131
  have e0 := ((At.boxc (i := 0) (v := .bool s) (t := 60) (b := w.heap.size) w #[.bool s, .slice A n c] rfl (by simp)).below ((Below.refl _ _).alloc (Nat.le_refl _) (.cells #[.bool false, .slice none 0 0] 60))).1
  have e1 := ((At.boxc (i := 1) (v := .slice A n c) (t := 60) (b := w.heap.size) w #[.bool s, .slice A n c] rfl (by simp)).below ((Below.refl _ _).alloc (Nat.le_refl _) (.cells #[.bool false, .slice none 0 0] 60))).1
  go_wp2_with fail
  refine (I5_any (s := !s) ((H.out.below ((Below.refl _ _).alloc (Nat.le_refl _) (.cells #[.bool s, .slice A n c] 60))).below ((Below.refl _ _).alloc (Nat.le_refl _) (.cells #[.bool false, .slice none 0 0] 60))) (by omega)).mono ?_
  rintro e w1 ⟨A_r, n_r, c_r, s_r, rfl, hs_r, o_r, hb1, l_r⟩
  clear e0 e1
  have c1 := ((Cel.box (i := 0) (v := .bool false) (t := 60) (b := w.heap.size + 1) (World.alloc w (.cells #[.bool s, .slice A n c] 60)) #[.bool false, .slice none 0 0] rfl (by simp)).below hb1)
  have c2 := ((Cel.box (i := 1) (v := .slice none 0 0) (t := 60) (b := w.heap.size + 1) (World.alloc w (.cells #[.bool s, .slice A n c] 60)) #[.bool false, .slice none 0 0] rfl (by simp)).below hb1)
  obtain ⟨c1a, c1b, c1c⟩ := c1
  obtain ⟨c2a, c2b, c2c⟩ := c2
  have HO := Lib.hid o_r
  have HB := Lib.hid (bt (bt ((Below.refl _ _).alloc (Nat.le_refl _) (.cells #[.bool s, .slice A n c] 60)) ((Below.refl _ _).alloc (Nat.le_refl _) (.cells #[.bool false, .slice none 0 0] 60))) hb1)
  go_wp2
  refine bodyPost_ret (v := .agg #[.bool s_r, .slice A_r n_r c_r]) (by simp [results, Tryz.results131, go_sem, c1a, c2a]) rfl ?_
  exact GI.eq (gi_fin hs_r HO.out HB.out (by simp) (by omega)) (sg_not s x)
set_option maxHeartbeats 1000000 in
theorem sub5_any {A A' : Option Addr} {n c m d x y L M : Nat} {s t : Bool} {z1 z2 : Int} {w : World} (h : Num w (.slice A n c) x L) (h' : Num w (.slice A' m d) y M) (hz1 : sg s x = z1) (hz2 : sg t y = z2) (hL1 : 1 ≤ L) (hM1 : 1 ≤ M) (hL : L ≤ 8589934592) (hM : M ≤ 8589934592) :
    Calls Tryz.prog 94 #[.agg #[.bool s, .slice A n c], .agg #[.bool t, .slice A' m d]] w (GI w (z1 - z2) (max L M + 1)) := by
  subst hz1 hz2
  have H := Lib.hid h
  have H' := Lib.hid h'
  clear h h'
  go_enter Tryz.func94, Tryz.ntmps94
  go_wp2_with fail
  have e_f0 := (((At.boxc (i := 0) (v := .bool s) (t := 60) (b := w.heap.size) w #[.bool s, .slice A n c] rfl (by simp)).below ((Below.refl _ _).alloc (Nat.le_refl _) (.cells #[.bool t, .slice A' m d] 60))).below ((Below.refl _ _).alloc (Nat.le_refl _) (.cells #[.bool false, .slice none 0 0] 60))).1
  have g_f0 := At.growS (b := (w.heap.size + 1 + 1)) (((At.boxc (i := 0) (v := .bool s) (t := 60) (b := w.heap.size) w #[.bool s, .slice A n c] rfl (by simp)).below ((Below.refl _ _).alloc (Nat.le_refl _) (.cells #[.bool t, .slice A' m d] 60))).below ((Below.refl _ _).alloc (Nat.le_refl _) (.cells #[.bool false, .slice none 0 0] 60))) (by simp <;> omega)
  have e_g0 := ((At.boxc (i := 0) (v := .bool t) (t := 60) (b := w.heap.size + 1) (World.alloc w (.cells #[.bool s, .slice A n c] 60)) #[.bool t, .slice A' m d] rfl (by simp)).below ((Below.refl _ _).alloc (Nat.le_refl _) (.cells #[.bool false, .slice none 0 0] 60))).1
  have g_g0 := At.growS (b := (w.heap.size + 1 + 1)) ((At.boxc (i := 0) (v := .bool t) (t := 60) (b := w.heap.size + 1) (World.alloc w (.cells #[.bool s, .slice A n c] 60)) #[.bool t, .slice A' m d] rfl (by simp)).below ((Below.refl _ _).alloc (Nat.le_refl _) (.cells #[.bool false, .slice none 0 0] 60))) (by simp <;> omega)
  have e_f1 := (((At.boxc (i := 1) (v := .slice A n c) (t := 60) (b := w.heap.size) w #[.bool s, .slice A n c] rfl (by simp)).below ((Below.refl _ _).alloc (Nat.le_refl _) (.cells #[.bool t, .slice A' m d] 60))).below ((Below.refl _ _).alloc (Nat.le_refl _) (.cells #[.bool false, .slice none 0 0] 60))).1
  have g_f1 := At.growS (b := (w.heap.size + 1 + 1)) (((At.boxc (i := 1) (v := .slice A n c) (t := 60) (b := w.heap.size) w #[.bool s, .slice A n c] rfl (by simp)).below ((Below.refl _ _).alloc (Nat.le_refl _) (.cells #[.bool t, .slice A' m d] 60))).below ((Below.refl _ _).alloc (Nat.le_refl _) (.cells #[.bool false, .slice none 0 0] 60))) (by simp <;> omega)
  have e_g1 := ((At.boxc (i := 1) (v := .slice A' m d) (t := 60) (b := w.heap.size + 1) (World.alloc w (.cells #[.bool s, .slice A n c] 60)) #[.bool t, .slice A' m d] rfl (by simp)).below ((Below.refl _ _).alloc (Nat.le_refl _) (.cells #[.bool false, .slice none 0 0] 60))).1
  have g_g1 := At.growS (b := (w.heap.size + 1 + 1)) ((At.boxc (i := 1) (v := .slice A' m d) (t := 60) (b := w.heap.size + 1) (World.alloc w (.cells #[.bool s, .slice A n c] 60)) #[.bool t, .slice A' m d] rfl (by simp)).below ((Below.refl _ _).alloc (Nat.le_refl _) (.cells #[.bool false, .slice none 0 0] 60))) (by simp <;> omega)
  refine wp_region_grow (some (w.heap.size + 1 + 1)) [(true, 0), (true, 1), (false, 2), (false, 3), (false, 4)] (by kernel_rfl) (by kernel_rfl) ?_
  repeat (refine ord_pas (by rfl) (fun K hK => ?_); go_simp; refine hK _ _ (fun w' hw' => (by first | (go_simp; done) | (go_simp; intro hh; cases hh))) ?_; clear hK K)
  (refine ord_call (by rfl) (fun K hK => ?_); go_simp; refine hK _ _ ?_; clear hK K)
  refine (neg5_any ((((H'.out.below ((Below.refl _ _).alloc (Nat.le_refl _) (.cells #[.bool s, .slice A n c] 60))).below ((Below.refl _ _).alloc (Nat.le_refl _) (.cells #[.bool t, .slice A' m d] 60))).below ((Below.refl _ _).alloc (Nat.le_refl _) (.cells #[.bool false, .slice none 0 0] 60))).below (Below.refl _ _).drew) rfl (by omega)).mono ?_
  rintro e w1 ⟨A_n, n_n, c_n, s_n, rfl, hs_n, o_n, hb1, l_n⟩
  refine ⟨_, rfl, Grow.of_below hb1, ?_⟩
  (refine ord_norm (fun K hK => ?_); go_simp; refine hK _ ?_; clear hK K)
  have HBW := Lib.hid hb1
  (refine ord_call (by rfl) (fun K hK => ?_); go_simp; refine hK _ _ ?_; clear hK K)
  refine (add5_any (((((H.out.below ((Below.refl _ _).alloc (Nat.le_refl _) (.cells #[.bool s, .slice A n c] 60))).below ((Below.refl _ _).alloc (Nat.le_refl _) (.cells #[.bool t, .slice A' m d] 60))).below ((Below.refl _ _).alloc (Nat.le_refl _) (.cells #[.bool false, .slice none 0 0] 60))).below (Below.refl _ _).drew).below hb1) (o_n.num l_n) rfl (sg_of hs_n.out) hL1 hM1 (by omega) (by omega)).mono ?_
  rintro e w2 ⟨A_r, n_r, c_r, s_r, rfl, hs_r, o_r, hb2, l_r⟩
  refine ⟨_, rfl, Grow.of_below hb2, ?_⟩
  (refine ord_norm (fun K hK => ?_); go_simp; refine hK _ ?_; clear hK K)
  have c1 := ((((Cel.box (i := 0) (v := .bool false) (t := 60) (b := w.heap.size + 1 + 1) (World.alloc (World.alloc w (.cells #[.bool s, .slice A n c] 60)) (.cells #[.bool t, .slice A' m d] 60)) #[.bool false, .slice none 0 0] rfl (by simp)).below (Below.refl _ _).drew).below hb1).below hb2)
  have c2 := ((((Cel.box (i := 1) (v := .slice none 0 0) (t := 60) (b := w.heap.size + 1 + 1) (World.alloc (World.alloc w (.cells #[.bool s, .slice A n c] 60)) (.cells #[.bool t, .slice A' m d] 60)) #[.bool false, .slice none 0 0] rfl (by simp)).below (Below.refl _ _).drew).below hb1).below hb2)
  obtain ⟨c1a, c1b, c1c⟩ := c1
  obtain ⟨c2a, c2b, c2c⟩ := c2
  (refine ord_act (by rfl) (fun K hK => ?_); go_simp)
  refine hK _ _ ⟨Grow.trans _ _ _ _ (Grow.set rfl _) (Grow.set rfl _), ?_⟩
  clear hK K
  refine ord_nil ?_
  have HO := Lib.hid o_r
  have HB := Lib.hid (bt (bt (bt (bt (bt ((Below.refl _ _).alloc (Nat.le_refl _) (.cells #[.bool s, .slice A n c] 60)) ((Below.refl _ _).alloc (Nat.le_refl _) (.cells #[.bool t, .slice A' m d] 60))) ((Below.refl _ _).alloc (Nat.le_refl _) (.cells #[.bool false, .slice none 0 0] 60))) (Below.refl _ _).drew) hb1) hb2)
  go_wp2
  refine bodyPost_ret (v := .agg #[.bool s_r, .slice A_r n_r c_r]) (by simp [results, Tryz.results94, go_sem, c1a, c2a]) rfl ?_
  refine GI.eq (gi_fin (L := (max L M + 1)) (wb := w1) hs_r HO.out HB.out ?_ (by omega)) (Int.sub_eq_add_neg.symm)
  refine ⟨by omega, ?_⟩
  have := HBW.out.size
  simp at this
  omega
theorem sg_exact {s t : Bool} {x y : Nat} {k : Int} (h : sg s x = k * sg t y) (hy : 0 < y) : sg (s != t) (x / y) = k := by
  have hk : x = k.natAbs * y := by
    have := congrArg Int.natAbs h
    rwa [sg_abs, Int.natAbs_mul, sg_abs] at this
  rw [hk, Nat.mul_div_cancel _ hy]
  have e2 : sg (s != t) k.natAbs * sg t y = k * sg t y := by
    rw [← h, hk, ← sg_mul]
    cases s <;> cases t <;> rfl
  have hy0 : sg t y ≠ 0 := by unfold sg; split <;> omega
  exact Int.eq_of_mul_eq_mul_right hy0 e2
set_option maxHeartbeats 1000000 in
theorem exact5_any {A A' : Option Addr} {n c m d x y L M : Nat} {s t : Bool} {k : Int} {w : World} (h : Num w (.slice A n c) x L) (h' : Num w (.slice A' m d) y M) (hk : sg s x = k * sg t y) (hy : 0 < y) (hL1 : 1 ≤ L) (hM1 : 1 ≤ M) (hL : L ≤ 8589934592) (hM : M ≤ 8589934592) :
    Calls Tryz.prog 93 #[.agg #[.bool s, .slice A n c], .agg #[.bool t, .slice A' m d]] w (GI w k L) := by
  have HK := Lib.hid (sg_exact hk hy)
  have HY := Lib.hid hy
  obtain ⟨st, hst⟩ : ∃ st, st = (s != t) := ⟨_, rfl⟩
  rw [← hst] at HK
  have q0 : (s != t) = st := hst.symm
  have q1 : (!(s == t)) = st := hst.symm
  clear hk hy hst
  have H := Lib.hid h
  have H' := Lib.hid h'
  clear h h'
  go_enter Tryz.func93, Tryz.ntmps93
  have e0 := (((At.boxc (i := 0) (v := .bool s) (t := 60) (b := w.heap.size) w #[.bool s, .slice A n c] rfl (by simp)).below ((Below.refl _ _).alloc (Nat.le_refl _) (.cells #[.bool t, .slice A' m d] 60))).below ((Below.refl _ _).alloc (Nat.le_refl _) (.cells #[.bool false, .slice none 0 0] 60))).1
  have e1 := (((At.boxc (i := 1) (v := .slice A n c) (t := 60) (b := w.heap.size) w #[.bool s, .slice A n c] rfl (by simp)).below ((Below.refl _ _).alloc (Nat.le_refl _) (.cells #[.bool t, .slice A' m d] 60))).below ((Below.refl _ _).alloc (Nat.le_refl _) (.cells #[.bool false, .slice none 0 0] 60))).1
  have e2 := ((At.boxc (i := 0) (v := .bool t) (t := 60) (b := w.heap.size + 1) (World.alloc w (.cells #[.bool s, .slice A n c] 60)) #[.bool t, .slice A' m d] rfl (by simp)).below ((Below.refl _ _).alloc (Nat.le_refl _) (.cells #[.bool false, .slice none 0 0] 60))).1
  have e3 := ((At.boxc (i := 1) (v := .slice A' m d) (t := 60) (b := w.heap.size + 1) (World.alloc w (.cells #[.bool s, .slice A n c] 60)) #[.bool t, .slice A' m d] rfl (by simp)).below ((Below.refl _ _).alloc (Nat.le_refl _) (.cells #[.bool false, .slice none 0 0] 60))).1
  go_wp2_with fail
  refine (quo5_any (((H.out.below ((Below.refl _ _).alloc (Nat.le_refl _) (.cells #[.bool s, .slice A n c] 60))).below ((Below.refl _ _).alloc (Nat.le_refl _) (.cells #[.bool t, .slice A' m d] 60))).below ((Below.refl _ _).alloc (Nat.le_refl _) (.cells #[.bool false, .slice none 0 0] 60))) (((H'.out.below ((Below.refl _ _).alloc (Nat.le_refl _) (.cells #[.bool s, .slice A n c] 60))).below ((Below.refl _ _).alloc (Nat.le_refl _) (.cells #[.bool t, .slice A' m d] 60))).below ((Below.refl _ _).alloc (Nat.le_refl _) (.cells #[.bool false, .slice none 0 0] 60))) HY.out (by omega) (by omega) hL1 hM1).mono ?_
  rintro e w1 ⟨A_q, n_q, c_q, A_rr, n_rr, c_rr, rfl, o_q, o_rr, hb1, l_q, l_rr⟩
  have HBW := Lib.hid (bt (bt (bt ((Below.refl _ _).alloc (Nat.le_refl _) (.cells #[.bool s, .slice A n c] 60)) ((Below.refl _ _).alloc (Nat.le_refl _) (.cells #[.bool t, .slice A' m d] 60))) ((Below.refl _ _).alloc (Nat.le_refl _) (.cells #[.bool false, .slice none 0 0] 60))) hb1)
  clear e0 e1 e2 e3
  have e0 := ((((At.boxc (i := 0) (v := .bool s) (t := 60) (b := w.heap.size) w #[.bool s, .slice A n c] rfl (by simp)).below ((Below.refl _ _).alloc (Nat.le_refl _) (.cells #[.bool t, .slice A' m d] 60))).below ((Below.refl _ _).alloc (Nat.le_refl _) (.cells #[.bool false, .slice none 0 0] 60))).below hb1).1
  have e1 := ((((At.boxc (i := 1) (v := .slice A n c) (t := 60) (b := w.heap.size) w #[.bool s, .slice A n c] rfl (by simp)).below ((Below.refl _ _).alloc (Nat.le_refl _) (.cells #[.bool t, .slice A' m d] 60))).below ((Below.refl _ _).alloc (Nat.le_refl _) (.cells #[.bool false, .slice none 0 0] 60))).below hb1).1
  have e2 := (((At.boxc (i := 0) (v := .bool t) (t := 60) (b := w.heap.size + 1) (World.alloc w (.cells #[.bool s, .slice A n c] 60)) #[.bool t, .slice A' m d] rfl (by simp)).below ((Below.refl _ _).alloc (Nat.le_refl _) (.cells #[.bool false, .slice none 0 0] 60))).below hb1).1
  have e3 := (((At.boxc (i := 1) (v := .slice A' m d) (t := 60) (b := w.heap.size + 1) (World.alloc w (.cells #[.bool s, .slice A n c] 60)) #[.bool t, .slice A' m d] rfl (by simp)).below ((Below.refl _ _).alloc (Nat.le_refl _) (.cells #[.bool false, .slice none 0 0] 60))).below hb1).1
  go_wp2_with fail
  refine (I5_any (s := st) (o_q.num l_q) (by omega)).mono ?_
  rintro e w2 ⟨A_r, n_r, c_r, s_r, rfl, hs_r, o_r, hb2, l_r⟩
  clear e0 e1 e2 e3
  have c1 := (((Cel.box (i := 0) (v := .bool false) (t := 60) (b := w.heap.size + 1 + 1) (World.alloc (World.alloc w (.cells #[.bool s, .slice A n c] 60)) (.cells #[.bool t, .slice A' m d] 60)) #[.bool false, .slice none 0 0] rfl (by simp)).below hb1).below hb2)
  have c2 := (((Cel.box (i := 1) (v := .slice none 0 0) (t := 60) (b := w.heap.size + 1 + 1) (World.alloc (World.alloc w (.cells #[.bool s, .slice A n c] 60)) (.cells #[.bool t, .slice A' m d] 60)) #[.bool false, .slice none 0 0] rfl (by simp)).below hb1).below hb2)
  obtain ⟨c1a, c1b, c1c⟩ := c1
  obtain ⟨c2a, c2b, c2c⟩ := c2
  have HO := Lib.hid o_r
  have HB := Lib.hid (bt (bt (bt (bt ((Below.refl _ _).alloc (Nat.le_refl _) (.cells #[.bool s, .slice A n c] 60)) ((Below.refl _ _).alloc (Nat.le_refl _) (.cells #[.bool t, .slice A' m d] 60))) ((Below.refl _ _).alloc (Nat.le_refl _) (.cells #[.bool false, .slice none 0 0] 60))) hb1) hb2)
  go_wp2
  refine bodyPost_ret (v := .agg #[.bool s_r, .slice A_r n_r c_r]) (by simp [results, Tryz.results93, go_sem, c1a, c2a]) rfl ?_
  refine GI.eq (gi_fin hs_r HO.out HB.out ?_ (by omega)) HK.out
  refine ⟨by omega, ?_⟩
  have := hb1.size
  simp at this
  omega
theorem mod_pos {x m : Nat} : (((x : Int) % (m : Int)).toNat) = x % m := by
  rw [← Int.natCast_emod, Int.toNat_natCast]
theorem mod_neg0 {x m : Nat} (h : x % m = 0) : ((-(x : Int) % (m : Int)).toNat) = x % m := by
  have h1 : (m : Int) ∣ -(x : Int) := Int.dvd_neg.2 (Int.natCast_dvd_natCast.2 (Nat.dvd_of_mod_eq_zero h))
  rw [Int.emod_eq_zero_of_dvd h1, h]; rfl
theorem mod_negp {x m : Nat} (hm : 0 < m) (h : 0 < x % m) : ((-(x : Int) % (m : Int)).toNat) = m - x % m := by
  have hlt := Nat.mod_lt x hm
  have e : (x : Int) = (m : Int) * ((x / m : Nat) : Int) + ((x % m : Nat) : Int) := by rw [← Int.natCast_mul, ← Int.natCast_add, Nat.div_add_mod]
  have e2 : -(x : Int) = ((m - x % m : Nat) : Int) + (m : Int) * (-((x / m : Nat) : Int) - 1) := by
    rw [Int.natCast_sub (Nat.le_of_lt hlt), Int.mul_sub, Int.mul_neg]; omega
  rw [e2, Int.add_mul_emod_self_left, Int.emod_eq_of_lt (by omega) (by omega), Int.toNat_natCast]
set_option maxHeartbeats 1000000 in
theorem mod5_pos {A : Option Addr} {n c x m L M : Nat} {u : Value} {w : World} (h : Num w (.slice A n c) x L) (h' : Num w u m M) (hm : 0 < m) (hL1 : 1 ≤ L) (hM1 : 1 ≤ M) (hL : L ≤ 8589934592) (hM : M ≤ 8589934592) :
    Calls Tryz.prog 91 #[.agg #[.bool false, .slice A n c], u] w (GN w (x % m) M) := by
  have H := Lib.hid h
  have H' := Lib.hid h'
  have HM := Lib.hid hm
  obtain ⟨_, _, _, _, rfl, _⟩ := id h'
  clear h h' hm
  go_enter Tryz.func91, Tryz.ntmps91
  have e1 := (At.boxc (i := 1) (v := .slice A n c) (t := 60) (b := w.heap.size) w #[.bool false, .slice A n c] rfl (by simp)).1
  go_wp2_with fail
  refine (quo5_any (H.out.below ((Below.refl _ _).alloc (Nat.le_refl _) (.cells #[.bool false, .slice A n c] 60))) (H'.out.below ((Below.refl _ _).alloc (Nat.le_refl _) (.cells #[.bool false, .slice A n c] 60))) HM.out (by omega) (by omega) hL1 hM1).mono ?_
  rintro e w1 ⟨A_q, n_q, c_q, A_r, n_r, c_r, rfl, o_q, o_r, hb1, l_q, l_r⟩
  clear e1
  have e0 := ((At.boxc (i := 0) (v := .bool false) (t := 60) (b := w.heap.size) w #[.bool false, .slice A n c] rfl (by simp)).below hb1).1
  go_wp2
  go_ret
  exact ⟨_, _, _, rfl, (o_r.mono ((Below.refl _ _).alloc (Nat.le_refl _) (.cells #[.bool false, .slice A n c] 60)).size), (bt ((Below.refl _ _).alloc (Nat.le_refl _) (.cells #[.bool false, .slice A n c] 60)) hb1), l_r⟩
set_option maxHeartbeats 1000000 in
theorem mod5_neg0 {A : Option Addr} {n c x m L M : Nat} {u : Value} {w : World} (h : Num w (.slice A n c) x L) (h' : Num w u m M) (hm : 0 < m) (hr : x % m = 0) (hL1 : 1 ≤ L) (hM1 : 1 ≤ M) (hL : L ≤ 8589934592) (hM : M ≤ 8589934592) :
    Calls Tryz.prog 91 #[.agg #[.bool true, .slice A n c], u] w (GN w (x % m) M) := by
  have CZ : Hid (∀ (w : World) (v : Value), Num w v (x % m) M → Calls Tryz.prog 89 #[v] w (Keeps (.bool true) w)) := fun w v h => by
    have := zero5_any h (by omega)
    rwa [decide_eq_true hr] at this
  clear hr
  have H := Lib.hid h
  have H' := Lib.hid h'
  have HM := Lib.hid hm
  obtain ⟨_, _, _, _, rfl, _⟩ := id h'
  clear h h' hm
  go_enter Tryz.func91, Tryz.ntmps91
  have e1 := (At.boxc (i := 1) (v := .slice A n c) (t := 60) (b := w.heap.size) w #[.bool true, .slice A n c] rfl (by simp)).1
  go_wp2_with fail
  refine (quo5_any (H.out.below ((Below.refl _ _).alloc (Nat.le_refl _) (.cells #[.bool true, .slice A n c] 60))) (H'.out.below ((Below.refl _ _).alloc (Nat.le_refl _) (.cells #[.bool true, .slice A n c] 60))) HM.out (by omega) (by omega) hL1 hM1).mono ?_
  rintro e w1 ⟨A_q, n_q, c_q, A_r, n_r, c_r, rfl, o_q, o_r, hb1, l_q, l_r⟩
  clear e1
  have e0 := ((At.boxc (i := 0) (v := .bool true) (t := 60) (b := w.heap.size) w #[.bool true, .slice A n c] rfl (by simp)).below hb1).1
  go_wp2_with fail
  refine (CZ.out _ _ (o_r.num l_r)).mono ?_
  rintro e w2 ⟨rfl, hb2⟩
  go_wp2
  go_ret
  exact ⟨_, _, _, rfl, ((o_r.mono ((Below.refl _ _).alloc (Nat.le_refl _) (.cells #[.bool true, .slice A n c] 60)).size).below hb2), (bt (bt ((Below.refl _ _).alloc (Nat.le_refl _) (.cells #[.bool true, .slice A n c] 60)) hb1) hb2), l_r⟩
set_option maxHeartbeats 1000000 in
theorem mod5_negp {A : Option Addr} {n c x m L M : Nat} {u : Value} {w : World} (h : Num w (.slice A n c) x L) (h' : Num w u m M) (hm : 0 < m) (hr : 0 < x % m) (hL1 : 1 ≤ L) (hM1 : 1 ≤ M) (hL : L ≤ 8589934592) (hM : M ≤ 8589934592) :
    Calls Tryz.prog 91 #[.agg #[.bool true, .slice A n c], u] w (GN w (m - x % m) M) := by
  have CZ : Hid (∀ (w : World) (v : Value), Num w v (x % m) M → Calls Tryz.prog 89 #[v] w (Keeps (.bool false) w)) := fun w v h => by
    have := zero5_any h (by omega)
    rwa [decide_eq_false (by omega)] at this
  have HLE : Hid (x % m ≤ m) := Nat.le_of_lt (Nat.mod_lt x hm)
  clear hr
  have H := Lib.hid h
  have H' := Lib.hid h'
  have HM := Lib.hid hm
  obtain ⟨_, _, _, _, rfl, _⟩ := id h'
  clear h h' hm
  go_enter Tryz.func91, Tryz.ntmps91
  have e1 := (At.boxc (i := 1) (v := .slice A n c) (t := 60) (b := w.heap.size) w #[.bool true, .slice A n c] rfl (by simp)).1
  go_wp2_with fail
  refine (quo5_any (H.out.below ((Below.refl _ _).alloc (Nat.le_refl _) (.cells #[.bool true, .slice A n c] 60))) (H'.out.below ((Below.refl _ _).alloc (Nat.le_refl _) (.cells #[.bool true, .slice A n c] 60))) HM.out (by omega) (by omega) hL1 hM1).mono ?_
  rintro e w1 ⟨A_q, n_q, c_q, A_r, n_r, c_r, rfl, o_q, o_r, hb1, l_q, l_r⟩
  clear e1
  have e0 := ((At.boxc (i := 0) (v := .bool true) (t := 60) (b := w.heap.size) w #[.bool true, .slice A n c] rfl (by simp)).below hb1).1
  go_wp2_with fail
  refine (CZ.out _ _ (o_r.num l_r)).mono ?_
  rintro e w2 ⟨rfl, hb2⟩
  clear e0
  go_wp2_with fail
  refine (minus5_any (((H'.out.below ((Below.refl _ _).alloc (Nat.le_refl _) (.cells #[.bool true, .slice A n c] 60))).below hb1).below hb2) ((o_r.num l_r).below hb2) HLE.out hM1 (by omega) (by omega)).mono ?_
  rintro e w3 ⟨A_d, n_d, c_d, rfl, o_d, hb3, l_d⟩
  go_wp2
  go_ret
  exact ⟨_, _, _, rfl, (o_d.mono (bt (bt ((Below.refl _ _).alloc (Nat.le_refl _) (.cells #[.bool true, .slice A n c] 60)) hb1) hb2).size), (bt (bt (bt ((Below.refl _ _).alloc (Nat.le_refl _) (.cells #[.bool true, .slice A n c] 60)) hb1) hb2) hb3), l_d⟩
theorem mod5_any {A : Option Addr} {n c x m L M : Nat} {s : Bool} {z : Int} {u : Value} {w : World} (h : Num w (.slice A n c) x L) (h' : Num w u m M) (hz : sg s x = z) (hm : 0 < m) (hL1 : 1 ≤ L) (hM1 : 1 ≤ M) (hL : L ≤ 8589934592) (hM : M ≤ 8589934592) :
    Calls Tryz.prog 91 #[.agg #[.bool s, .slice A n c], u] w (GN w (z % (m : Int)).toNat M) := by
  subst hz
  cases s
  · rw [sg_false, mod_pos]; exact mod5_pos h h' hm hL1 hM1 hL hM
  · rw [sg_true]
    rcases Nat.eq_zero_or_pos (x % m) with hr | hr
    · rw [mod_neg0 hr]; exact mod5_neg0 h h' hm hr hL1 hM1 hL hM
    · rw [mod_negp hm hr]; exact mod5_negp h h' hm hr hL1 hM1 hL hM
end Go.Proofs.YtamfhmmcnlollaaGreat
namespace Go.Proofs.YtamfhmmcnlollaaGreat
open Go.RowKit
set_option linter.unusedVariables false

def SomeOk (a b : Nat) (z : Int) : Prop := (∃ k : Int, z * (a : Int) = (Nat.gcd a b : Int) + (b : Int) * k) ∧ z.natAbs ≤ max 1 b
theorem some_one {a b : Nat} (h : b % a = 0) : SomeOk a b 1 := by
  refine ⟨⟨0, ?_⟩, ?_⟩
  · rw [Nat.gcd_eq_left (Nat.dvd_of_mod_eq_zero h)]; omega
  · show 1 ≤ _; omega
theorem some_step {a b : Nat} {y k : Int} (ha : 0 < a) (hr : 0 < b % a) (h1 : y * ((b % a : Nat) : Int) = (Nat.gcd (b % a) a : Int) + (a : Int) * k) (h2 : y.natAbs ≤ max 1 a) :
    SomeOk a b (-(y * ((b / a : Nat) : Int) + k)) := by
  have hb : (b : Int) = (a : Int) * ((b / a : Nat) : Int) + ((b % a : Nat) : Int) := by rw [← Int.natCast_mul, ← Int.natCast_add, Nat.div_add_mod]
  have hbn : b = a * (b / a) + b % a := (Nat.div_add_mod b a).symm
  have hlt : b % a < a := Nat.mod_lt b ha
  have hG : Nat.gcd (b % a) a ≤ b % a := Nat.gcd_le_left a hr
  have hg : Nat.gcd a b = Nat.gcd (b % a) a := Nat.gcd_rec a b
  generalize b / a = q at *
  generalize b % a = r at *
  rw [SomeOk, hg]
  generalize Nat.gcd r a = G at *
  have h2 : y.natAbs ≤ a := by omega
  have hk : k.natAbs ≤ r := by
    rcases Nat.lt_or_ge r k.natAbs with h3 | h3
    · exfalso
      have e1 : a * (r + 1) ≤ a * k.natAbs := Nat.mul_le_mul_left _ h3
      have e2 : a * k.natAbs ≤ y.natAbs * r + G := by
        have e3 : (a : Int) * k = y * (r : Int) + -(G : Int) := by omega
        have e4 := congrArg Int.natAbs e3
        rw [Int.natAbs_mul, Int.natAbs_natCast] at e4
        rw [e4]
        refine Nat.le_trans (Int.natAbs_add_le _ _) ?_
        rw [Int.natAbs_mul, Int.natAbs_neg, Int.natAbs_natCast, Int.natAbs_natCast]
        exact Nat.le_refl _
      have e5 : y.natAbs * r ≤ a * r := Nat.mul_le_mul_right _ h2
      rw [Nat.mul_add] at e1
      omega
    · exact h3
  refine ⟨⟨-y, ?_⟩, ?_⟩
  · rw [hb]
    have e1 : -(y * (q : Int) + k) * (a : Int) = -((a : Int) * (q : Int) * y) - (a : Int) * k := by
      rw [Int.neg_mul, Int.add_mul, Int.mul_comm k, Int.mul_assoc, Int.mul_comm y, Int.mul_comm (q : Int)]; omega
    have e2 : ((a : Int) * (q : Int) + (r : Int)) * -y = -((a : Int) * (q : Int) * y) - y * (r : Int) := by
      rw [Int.mul_neg, Int.add_mul, Int.mul_comm (r : Int)]; omega
    rw [e1, e2, h1]
    omega
  · have e1 : (y * (q : Int) + k).natAbs ≤ a * q + r := by
      refine Nat.le_trans (Int.natAbs_add_le _ _) ?_
      rw [Int.natAbs_mul, Int.natAbs_natCast]
      have := Nat.mul_le_mul_right q h2
      omega
    rw [Int.natAbs_neg]
    omega
def GS (w : World) (a b K : Nat) (e : Ending) (w' : World) : Prop := ∃ z, SomeOk a b z ∧ GI w z K e w'
theorem some_lt {a b K : Nat} {z : Int} (h : SomeOk a b z) (hb : b < W ^ K) (hK : 1 ≤ K) : z.natAbs < W ^ K := by
  have h1 : W ^ 1 ≤ W ^ K := Nat.pow_le_pow_right W_pos hK
  have h2 := W_gt
  rw [Nat.pow_one] at h1
  have := h.2
  omega
set_option maxHeartbeats 8000000 in
set_option maxRecDepth 100000 in
theorem some5_any {K : Nat} (hK1 : 1 ≤ K) (hK : K ≤ 1000000) : ∀ (a : Nat) {v u : Value} {b : Nat} {w : World}, Num w v a K → Num w u b K → 0 < a → Calls Tryz.prog 92 #[v, u] w (GS w a b K) := by
  intro a
  induction a using Nat.strongRecOn with
  | _ a ih =>
    intro v u b w h h' ha
    have H := Lib.hid h
    have H' := Lib.hid h'
    have HA := Lib.hid ha
    have IH := Lib.hid ih
    have HLT := Lib.hid h'.lt
    obtain ⟨_, _, _, _, rfl, _⟩ := id h
    obtain ⟨_, _, _, _, rfl, _⟩ := id h'
    clear h h' ih
    by_cases hz : b = 0
    · have HZ : Hid (b % a = 0) := by rw [hz]; exact Nat.zero_mod _
      have q0 : decide (b = 0) = true := by simpa using hz
      clear hz ha
      go_enter Tryz.func92, Tryz.ntmps92
      go_wp2_with fail
      refine (zero5_any (H'.out.below ((Below.refl _ _).alloc (Nat.le_refl _) (.cells #[.bool false, .slice none 0 0] 60))) (by omega)).mono ?_
      rintro e w1 ⟨rfl, hb1⟩
      have HWB : Hid (w.heap.size < Array.size (World.heap (w1))) := ((Cel.box (i := 0) (v := .bool false) (t := 60) (b := w.heap.size) w #[.bool false, .slice none 0 0] rfl (by simp)).below hb1).2.2
      go_wp2_with fail
      refine (Z5_nat (x := 1) rfl (by omega)).mono ?_
      rintro e w2 ⟨A_r, n_r, c_r, s_r, rfl, hs_r, o_r, hb2, l_r⟩
      have c1 := (((Cel.box (i := 0) (v := .bool false) (t := 60) (b := w.heap.size) w #[.bool false, .slice none 0 0] rfl (by simp)).below hb1).below hb2)
      have c2 := (((Cel.box (i := 1) (v := .slice none 0 0) (t := 60) (b := w.heap.size) w #[.bool false, .slice none 0 0] rfl (by simp)).below hb1).below hb2)
      obtain ⟨c1a, c1b, c1c⟩ := c1
      obtain ⟨c2a, c2b, c2c⟩ := c2
      have HO := Lib.hid o_r
      have HB := Lib.hid (bt (bt ((Below.refl _ _).alloc (Nat.le_refl _) (.cells #[.bool false, .slice none 0 0] 60)) hb1) hb2)
      go_wp2
      refine bodyPost_ret (v := .agg #[.bool s_r, .slice A_r n_r c_r]) (by simp [results, Tryz.results92, go_sem, c1a, c2a]) rfl ?_
      refine ⟨1, some_one HZ.out, ?_⟩
      exact gi_fin hs_r HO.out HB.out ⟨Nat.le_refl _, HWB.out⟩ (by omega)
    · have q0 : decide (b = 0) = false := by simpa using hz
      rcases Nat.eq_zero_or_pos (b % a) with hr | hr
      · have HZ := Lib.hid hr
        have CZ : Hid (∀ (w : World) (v : Value), Num w v (b % a) K → Calls Tryz.prog 89 #[v] w (Keeps (.bool true) w)) := fun w v h => by
          have := zero5_any h (by omega)
          rwa [decide_eq_true hr] at this
        clear hz ha hr
        go_enter Tryz.func92, Tryz.ntmps92
        go_wp2_with fail
        refine (zero5_any (H'.out.below ((Below.refl _ _).alloc (Nat.le_refl _) (.cells #[.bool false, .slice none 0 0] 60))) (by omega)).mono ?_
        rintro e w3 ⟨rfl, hb3⟩
        go_wp2_with fail
        refine (quo5_any ((H'.out.below ((Below.refl _ _).alloc (Nat.le_refl _) (.cells #[.bool false, .slice none 0 0] 60))).below hb3) ((H.out.below ((Below.refl _ _).alloc (Nat.le_refl _) (.cells #[.bool false, .slice none 0 0] 60))).below hb3) HA.out (by omega) (by omega) (by omega) (by omega)).mono ?_
        rintro e w4 ⟨A_q, n_q, c_q, A_rr, n_rr, c_rr, rfl, o_q, o_rr, hb4, l_q, l_rr⟩
        go_wp2_with fail
        refine (CZ.out _ _ (o_rr.num l_rr)).mono ?_
        rintro e w5 ⟨rfl, hb5⟩
        have HWB : Hid (w.heap.size < Array.size (World.heap (w5))) := ((((Cel.box (i := 0) (v := .bool false) (t := 60) (b := w.heap.size) w #[.bool false, .slice none 0 0] rfl (by simp)).below hb3).below hb4).below hb5).2.2
        go_wp2_with fail
        refine (Z5_nat (x := 1) rfl (by omega)).mono ?_
        rintro e w6 ⟨A_r, n_r, c_r, s_r, rfl, hs_r, o_r, hb6, l_r⟩
        have c1 := (((((Cel.box (i := 0) (v := .bool false) (t := 60) (b := w.heap.size) w #[.bool false, .slice none 0 0] rfl (by simp)).below hb3).below hb4).below hb5).below hb6)
        have c2 := (((((Cel.box (i := 1) (v := .slice none 0 0) (t := 60) (b := w.heap.size) w #[.bool false, .slice none 0 0] rfl (by simp)).below hb3).below hb4).below hb5).below hb6)
        obtain ⟨c1a, c1b, c1c⟩ := c1
        obtain ⟨c2a, c2b, c2c⟩ := c2
        have HO := Lib.hid o_r
        have HB := Lib.hid (bt (bt (bt (bt ((Below.refl _ _).alloc (Nat.le_refl _) (.cells #[.bool false, .slice none 0 0] 60)) hb3) hb4) hb5) hb6)
        go_wp2
        refine bodyPost_ret (v := .agg #[.bool s_r, .slice A_r n_r c_r]) (by simp [results, Tryz.results92, go_sem, c1a, c2a]) rfl ?_
        refine ⟨1, some_one HZ.out, ?_⟩
        exact gi_fin hs_r HO.out HB.out ⟨Nat.le_refl _, HWB.out⟩ (by omega)
      · have HR := Lib.hid hr
        have CZ : Hid (∀ (w : World) (v : Value), Num w v (b % a) K → Calls Tryz.prog 89 #[v] w (Keeps (.bool false) w)) := fun w v h => by
          have := zero5_any h (by omega)
          rwa [decide_eq_false (by omega)] at this
        have HML : Hid (b % a < a) := Nat.mod_lt _ ha
        clear hz ha hr
        go_enter Tryz.func92, Tryz.ntmps92
        go_wp2_with fail
        refine (zero5_any (H'.out.below ((Below.refl _ _).alloc (Nat.le_refl _) (.cells #[.bool false, .slice none 0 0] 60))) (by omega)).mono ?_
        rintro e w7 ⟨rfl, hb7⟩
        go_wp2_with fail
        refine (quo5_any ((H'.out.below ((Below.refl _ _).alloc (Nat.le_refl _) (.cells #[.bool false, .slice none 0 0] 60))).below hb7) ((H.out.below ((Below.refl _ _).alloc (Nat.le_refl _) (.cells #[.bool false, .slice none 0 0] 60))).below hb7) HA.out (by omega) (by omega) (by omega) (by omega)).mono ?_
        rintro e w8 ⟨A_q, n_q, c_q, A_rr, n_rr, c_rr, rfl, o_q, o_rr, hb8, l_q, l_rr⟩
        go_wp2_with fail
        refine (CZ.out _ _ (o_rr.num l_rr)).mono ?_
        rintro e w9 ⟨rfl, hb9⟩
        go_wp2_with fail
        refine (IH.out _ HML.out ((o_rr.num l_rr).below hb9) ((((H.out.below ((Below.refl _ _).alloc (Nat.le_refl _) (.cells #[.bool false, .slice none 0 0] 60))).below hb7).below hb8).below hb9) HR.out).mono ?_
        rintro e wy ⟨y, hy, A_y, n_y, c_y, s_y, rfl, hs_y, o_y, hby, l_y⟩
        obtain ⟨⟨k, hy1⟩, hy2⟩ := hy
        have HY := Lib.hid (And.intro hy1 hy2)
        have HSO := Lib.hid (some_step HA.out HR.out hy1 hy2)
        clear hy1 hy2
        have hwy : w.heap.size < wy.heap.size := (((((Cel.box (i := 0) (v := .bool false) (t := 60) (b := w.heap.size) w #[.bool false, .slice none 0 0] rfl (by simp)).below hb7).below hb8).below hb9).below hby).2.2
        go_wp2_with fail
        refine (gcd5_any (K := K) ((((o_rr.num l_rr).below hb9).below hby).below ((Below.refl _ _).alloc (Nat.le_refl _) (.cells #[.bool s_y, .slice A_y n_y c_y] 60))) ((((((H.out.below ((Below.refl _ _).alloc (Nat.le_refl _) (.cells #[.bool false, .slice none 0 0] 60))).below hb7).below hb8).below hb9).below hby).below ((Below.refl _ _).alloc (Nat.le_refl _) (.cells #[.bool s_y, .slice A_y n_y c_y] 60))) (by omega) (by omega) (by omega) (by omega)).mono ?_
        rintro e w10 ⟨A_g, n_g, c_g, rfl, o_g, hb10, l_g⟩
        have hw8 : w.heap.size < Array.size (World.heap (w10)) := (((((((Cel.box (i := 0) (v := .bool false) (t := 60) (b := w.heap.size) w #[.bool false, .slice none 0 0] rfl (by simp)).below hb7).below hb8).below hb9).below hby).below ((Below.refl _ _).alloc (Nat.le_refl _) (.cells #[.bool s_y, .slice A_y n_y c_y] 60))).below hb10).2.2
        go_wp2_with fail
        have e_y0 := ((At.boxc (i := 0) (v := .bool s_y) (t := 60) (b := wy.heap.size) wy #[.bool s_y, .slice A_y n_y c_y] rfl (by simp)).below hb10).1
        have g_y0 := At.growB ((At.boxc (i := 0) (v := .bool s_y) (t := 60) (b := wy.heap.size) wy #[.bool s_y, .slice A_y n_y c_y] rfl (by simp)).below hb10)
        have e_y1 := ((At.boxc (i := 1) (v := .slice A_y n_y c_y) (t := 60) (b := wy.heap.size) wy #[.bool s_y, .slice A_y n_y c_y] rfl (by simp)).below hb10).1
        have g_y1 := At.growB ((At.boxc (i := 1) (v := .slice A_y n_y c_y) (t := 60) (b := wy.heap.size) wy #[.bool s_y, .slice A_y n_y c_y] rfl (by simp)).below hb10)
        refine wp_region_fltR (KB (w10).heap.size) (KB.refl _) (KB.trans _) (KB.of_grow _) [(0, 0), (0, 1), (0, 4), (0, 7), (2, 10), (1, 2), (1, 3), (1, 5), (1, 6), (1, 8), (1, 9), (4, 10), (3, 11)] (by kernel_rfl) (by kernel_rfl) ?_
        repeat (refine flt_pas (by rfl) (fun K hK => ?_); go_simp; refine hK _ _ (fun w' hw' => (by first | (go_simp; done) | (go_simp; intro hh; cases hh))) ?_; clear hK K)
        refine flt_alloc ((World.drew w10).heap.size) 60 #[.bool false, .slice none 0 0] (by rfl) rfl (fun w1 => (by go_simp)) (Nat.le_refl _) ?_
        refine flt_call (by rfl) (fun w11 hw11 K hK => ?_); go_simp; refine hK _ _ ?_; clear hK K
        refine (I5_any (s := false) (((((((o_rr.num l_rr).below hb9).below hby).below ((Below.refl _ _).alloc (Nat.le_refl _) (.cells #[.bool s_y, .slice A_y n_y c_y] 60))).below hb10).below (below_drewN _ 1)).below hw11.below) (by omega)).mono ?_
        rintro e w12 ⟨A_i1, n_i1, c_i1, s_i1, rfl, hs_i1, o_i1, hb12, l_i1⟩
        refine ⟨_, rfl, Grow.of_below hb12, ?_⟩
        (refine flt_norm (fun K hK => ?_); go_simp; refine hK _ ?_; clear hK K)
        refine flt_call (by rfl) (fun w13 hw13 K hK => ?_); go_simp; refine hK _ _ ?_; clear hK K
        refine (mul5_any (((((((o_y.num l_y).below ((Below.refl _ _).alloc (Nat.le_refl _) (.cells #[.bool s_y, .slice A_y n_y c_y] 60))).below hb10).below (below_drewN _ 1)).below hw11.below).below hb12).below hw13.below) ((o_i1.num l_i1).below hw13.below) (sg_of hs_y.out) (sg_of hs_i1.out) (by omega) (by omega)).mono ?_
        rintro e w14 ⟨A_m1, n_m1, c_m1, s_m1, rfl, hs_m1, o_m1, hb14, l_m1⟩
        refine ⟨_, rfl, Grow.of_below hb14, ?_⟩
        (refine flt_norm (fun K hK => ?_); go_simp; refine hK _ ?_; clear hK K)
        refine flt_call (by rfl) (fun w15 hw15 K hK => ?_); go_simp; refine hK _ _ ?_; clear hK K
        refine (I5_any (s := false) (((((((o_g.num l_g).below (below_drewN _ 1)).below hw11.below).below hb12).below hw13.below).below hb14).below hw15.below) (by omega)).mono ?_
        rintro e w16 ⟨A_i2, n_i2, c_i2, s_i2, rfl, hs_i2, o_i2, hb16, l_i2⟩
        refine ⟨_, rfl, Grow.of_below hb16, ?_⟩
        (refine flt_norm (fun K hK => ?_); go_simp; refine hK _ ?_; clear hK K)
        refine flt_call (by rfl) (fun w17 hw17 K hK => ?_); go_simp; refine hK _ _ ?_; clear hK K
        refine (sub5_any ((((o_m1.num l_m1).below hw15.below).below hb16).below hw17.below) ((o_i2.num l_i2).below hw17.below) (sg_of hs_m1.out) (sg_of hs_i2.out) (by omega) (by omega) (by omega) (by omega)).mono ?_
        rintro e w18 ⟨A_d1, n_d1, c_d1, s_d1, rfl, hs_d1, o_d1, hb18, l_d1⟩
        refine ⟨_, rfl, Grow.of_below hb18, ?_⟩
        (refine flt_norm (fun K hK => ?_); go_simp; refine hK _ ?_; clear hK K)
        refine flt_call (by rfl) (fun w19 hw19 K hK => ?_); go_simp; refine hK _ _ ?_; clear hK K
        refine (I5_any (s := false) (((((((((((((((((H.out.below ((Below.refl _ _).alloc (Nat.le_refl _) (.cells #[.bool false, .slice none 0 0] 60))).below hb7).below hb8).below hb9).below hby).below ((Below.refl _ _).alloc (Nat.le_refl _) (.cells #[.bool s_y, .slice A_y n_y c_y] 60))).below hb10).below (below_drewN _ 1)).below hw11.below).below hb12).below hw13.below).below hb14).below hw15.below).below hb16).below hw17.below).below hb18).below hw19.below) (by omega)).mono ?_
        rintro e w20 ⟨A_i3, n_i3, c_i3, s_i3, rfl, hs_i3, o_i3, hb20, l_i3⟩
        refine ⟨_, rfl, Grow.of_below hb20, ?_⟩
        (refine flt_norm (fun K hK => ?_); go_simp; refine hK _ ?_; clear hK K)
        refine flt_call (by rfl) (fun w21 hw21 K hK => ?_); go_simp; refine hK _ _ ?_; clear hK K
        refine (exact5_any ((((o_d1.num l_d1).below hw19.below).below hb20).below hw21.below) ((o_i3.num l_i3).below hw21.below) (k := k) (by rw [(sg_of hs_d1.out), (sg_of hs_i3.out), sg_false, sg_false, sg_false, HY.out.1]; rw [Int.mul_comm (a : Int)]; omega) (by rw [sg_false]; exact HA.out) (by omega) (by omega) (by omega) (by omega)).mono ?_
        rintro e w22 ⟨A_x1, n_x1, c_x1, s_x1, rfl, hs_x1, o_x1, hb22, l_x1⟩
        refine ⟨_, rfl, Grow.of_below hb22, ?_⟩
        (refine flt_norm (fun K hK => ?_); go_simp; refine hK _ ?_; clear hK K)
        refine flt_land (by rfl) (fun v_zb w23 hw23 hF => ?_)
        obtain ⟨b_zb, rfl, hB_zb, hc_zb⟩ := hF
        (refine flt_norm (fun K hK => ?_); go_simp; refine hK _ ?_; clear hK K)
        obtain ⟨cz1, cz2, cz3⟩ := cel_of hc_zb (j := 0) rfl
        obtain ⟨cz4, cz5, cz6⟩ := cel_of hc_zb (j := 1) rfl
        (refine flt_actX (by rfl) (fun K hK => ?_); go_simp)
        refine hK _ _ ⟨KB.set2 hB_zb, ?_⟩
        clear hK K
        repeat (refine flt_pas (by rfl) (fun K hK => ?_); go_simp; refine hK _ _ (fun w' hw' => (by first | (go_simp; done) | (go_simp; intro hh; cases hh))) ?_; clear hK K)
        refine flt_nil ?_
        clear g_y0 e_y0 g_y1 e_y1
        have HKX : Hid (Own .u64 41 _ (w23) A_x1 n_x1 c_x1 (dg W k.natAbs) ∧ Below ((World.drew w10)).heap.size ((World.drew w10)) (w23)) := ⟨(o_x1.below hw23.below), (bt (bt (bt (bt (bt (bt (bt (bt (bt (bt (bt (bt hw11.below hb12) hw13.below) hb14) hw15.below) hb16) hw17.below) hb18) hw19.below) hb20) hw21.below) hb22) hw23.below)⟩
        obtain ⟨wz, hwz⟩ : ∃ wz : World, wz = ((w23).setCell ⟨b_zb, 0, none⟩ (.bool s_x1)).setCell ⟨b_zb, 1, none⟩ (.slice A_x1 n_x1 c_x1) := ⟨_, rfl⟩
        rw [← hwz]
        have HZ : Hid (Below ((World.drew w10)).heap.size ((World.drew w10)) wz ∧ At wz ⟨b_zb, 0, none⟩ (.bool s_x1) ∧ At wz ⟨b_zb, 1, none⟩ (.slice A_x1 n_x1 c_x1) ∧ Num wz (.slice A_x1 n_x1 c_x1) k.natAbs (max (max 1 (K + K)) K + 1)) := by
          rw [hwz]
          refine ⟨((HKX.out.2).setCell (p := ⟨b_zb, 0, none⟩) hB_zb _).setCell (p := ⟨b_zb, 1, none⟩) hB_zb _, Cel.at ((Cel.put ⟨cz1, cz2, cz3⟩).set (by simp)), Cel.at ((Cel.set ⟨cz4, cz5, cz6⟩ (by simp)).put), ?_⟩
          have hb : BoxT 60 b_zb _ := ⟨_, _, hc_zb⟩
          exact ((HKX.out.1.set_ty (p := ⟨b_zb, 0, none⟩) hb (by decide)).set_ty (p := ⟨b_zb, 1, none⟩) hb.set (by decide)).num l_x1
        clear HKX
        have hzb : w.heap.size < b_zb := Nat.lt_of_lt_of_le hw8 hB_zb
        clear cz1 cz2 cz3 cz4 cz5 cz6 hwz hc_zb o_i1 o_m1 o_i2 o_d1 o_i3 o_x1
        go_wp2_with fail
        have e_y0 := ((((At.boxc (i := 0) (v := .bool s_y) (t := 60) (b := wy.heap.size) wy #[.bool s_y, .slice A_y n_y c_y] rfl (by simp)).below hb10).below (below_drewN _ 1)).below HZ.out.1).1
        have g_y0 := At.growS (b := w.heap.size) ((((At.boxc (i := 0) (v := .bool s_y) (t := 60) (b := wy.heap.size) wy #[.bool s_y, .slice A_y n_y c_y] rfl (by simp)).below hb10).below (below_drewN _ 1)).below HZ.out.1) (by simp <;> omega)
        have e_y1 := ((((At.boxc (i := 1) (v := .slice A_y n_y c_y) (t := 60) (b := wy.heap.size) wy #[.bool s_y, .slice A_y n_y c_y] rfl (by simp)).below hb10).below (below_drewN _ 1)).below HZ.out.1).1
        have g_y1 := At.growS (b := w.heap.size) ((((At.boxc (i := 1) (v := .slice A_y n_y c_y) (t := 60) (b := wy.heap.size) wy #[.bool s_y, .slice A_y n_y c_y] rfl (by simp)).below hb10).below (below_drewN _ 1)).below HZ.out.1) (by simp <;> omega)
        have e_z0 := HZ.out.2.1.1
        have g_z0 := At.growS (b := w.heap.size) HZ.out.2.1 (by simp <;> omega)
        have e_z1 := HZ.out.2.2.1.1
        have g_z1 := At.growS (b := w.heap.size) HZ.out.2.2.1 (by simp <;> omega)
        refine wp_region_grow (some w.heap.size) [(true, 0), (true, 1), (true, 4), (false, 2), (false, 3), (false, 5), (false, 6), (false, 7)] (by kernel_rfl) (by kernel_rfl) ?_
        repeat (refine ord_pas (by rfl) (fun K hK => ?_); go_simp; refine hK _ _ (fun w' hw' => (by first | (go_simp; done) | (go_simp; intro hh; cases hh))) ?_; clear hK K)
        (refine ord_call (by rfl) (fun K hK => ?_); go_simp; refine hK _ _ ?_; clear hK K)
        refine (I5_any (s := false) ((((((((o_q.num l_q).below hb9).below hby).below ((Below.refl _ _).alloc (Nat.le_refl _) (.cells #[.bool s_y, .slice A_y n_y c_y] 60))).below hb10).below (below_drewN _ 1)).below HZ.out.1).below (Below.refl _ _).drew) (by omega)).mono ?_
        rintro e w24 ⟨A_j1, n_j1, c_j1, s_j1, rfl, hs_j1, o_j1, hb24, l_j1⟩
        refine ⟨_, rfl, Grow.of_below hb24, ?_⟩
        (refine ord_norm (fun K hK => ?_); go_simp; refine hK _ ?_; clear hK K)
        (refine ord_call (by rfl) (fun K hK => ?_); go_simp; refine hK _ _ ?_; clear hK K)
        refine (mul5_any (((((((o_y.num l_y).below ((Below.refl _ _).alloc (Nat.le_refl _) (.cells #[.bool s_y, .slice A_y n_y c_y] 60))).below hb10).below (below_drewN _ 1)).below HZ.out.1).below (Below.refl _ _).drew).below hb24) (o_j1.num l_j1) (sg_of hs_y.out) (sg_of hs_j1.out) (by omega) (by omega)).mono ?_
        rintro e w25 ⟨A_m2, n_m2, c_m2, s_m2, rfl, hs_m2, o_m2, hb25, l_m2⟩
        refine ⟨_, rfl, Grow.of_below hb25, ?_⟩
        (refine ord_norm (fun K hK => ?_); go_simp; refine hK _ ?_; clear hK K)
        (refine ord_call (by rfl) (fun K hK => ?_); go_simp; refine hK _ _ ?_; clear hK K)
        refine (add5_any (o_m2.num l_m2) (((HZ.out.2.2.2.below (Below.refl _ _).drew).below hb24).below hb25) (sg_of hs_m2.out) (sg_of hs_x1.out) (by omega) (by omega) (by omega) (by omega)).mono ?_
        rintro e w26 ⟨A_s1, n_s1, c_s1, s_s1, rfl, hs_s1, o_s1, hb26, l_s1⟩
        refine ⟨_, rfl, Grow.of_below hb26, ?_⟩
        (refine ord_norm (fun K hK => ?_); go_simp; refine hK _ ?_; clear hK K)
        have HWB : Hid (w.heap.size < Array.size (World.heap (w26))) := (((((((((((((Cel.box (i := 0) (v := .bool false) (t := 60) (b := w.heap.size) w #[.bool false, .slice none 0 0] rfl (by simp)).below hb7).below hb8).below hb9).below hby).below ((Below.refl _ _).alloc (Nat.le_refl _) (.cells #[.bool s_y, .slice A_y n_y c_y] 60))).below hb10).below (below_drewN _ 1)).below HZ.out.1).below (Below.refl _ _).drew).below hb24).below hb25).below hb26).2.2
        (refine ord_call (by rfl) (fun K hK => ?_); go_simp; refine hK _ _ ?_; clear hK K)
        refine (neg5_any (o_s1.num l_s1) (sg_of hs_s1.out) (by omega)).mono ?_
        rintro e w27 ⟨A_r, n_r, c_r, s_r, rfl, hs_r, o_r, hb27, l_r⟩
        refine ⟨_, rfl, Grow.of_below hb27, ?_⟩
        (refine ord_norm (fun K hK => ?_); go_simp; refine hK _ ?_; clear hK K)
        have c1 := ((((((((((((((Cel.box (i := 0) (v := .bool false) (t := 60) (b := w.heap.size) w #[.bool false, .slice none 0 0] rfl (by simp)).below hb7).below hb8).below hb9).below hby).below ((Below.refl _ _).alloc (Nat.le_refl _) (.cells #[.bool s_y, .slice A_y n_y c_y] 60))).below hb10).below (below_drewN _ 1)).below HZ.out.1).below (Below.refl _ _).drew).below hb24).below hb25).below hb26).below hb27)
        have c2 := ((((((((((((((Cel.box (i := 1) (v := .slice none 0 0) (t := 60) (b := w.heap.size) w #[.bool false, .slice none 0 0] rfl (by simp)).below hb7).below hb8).below hb9).below hby).below ((Below.refl _ _).alloc (Nat.le_refl _) (.cells #[.bool s_y, .slice A_y n_y c_y] 60))).below hb10).below (below_drewN _ 1)).below HZ.out.1).below (Below.refl _ _).drew).below hb24).below hb25).below hb26).below hb27)
        obtain ⟨c1a, c1b, c1c⟩ := c1
        obtain ⟨c2a, c2b, c2c⟩ := c2
        (refine ord_act (by rfl) (fun K hK => ?_); go_simp)
        refine hK _ _ ⟨Grow.trans _ _ _ _ (Grow.set rfl _) (Grow.set rfl _), ?_⟩
        clear hK K
        refine ord_nil ?_
        have HO := Lib.hid o_r
        have HB := Lib.hid (bt (bt (bt (bt (bt (bt (bt (bt (bt (bt (bt (bt (bt ((Below.refl _ _).alloc (Nat.le_refl _) (.cells #[.bool false, .slice none 0 0] 60)) hb7) hb8) hb9) hby) ((Below.refl _ _).alloc (Nat.le_refl _) (.cells #[.bool s_y, .slice A_y n_y c_y] 60))) hb10) (below_drewN _ 1)) HZ.out.1) (Below.refl _ _).drew) hb24) hb25) hb26) hb27)
        go_wp2
        refine bodyPost_ret (v := .agg #[.bool s_r, .slice A_r n_r c_r]) (by simp [results, Tryz.results92, go_sem, c1a, c2a]) rfl ?_
        refine ⟨_, HSO.out, ?_⟩
        exact gi_fin hs_r HO.out HB.out ⟨Nat.le_refl _, HWB.out⟩ (by rw [← HO.out.len]; exact dgl (some_lt HSO.out HLT.out hK1))

theorem extok_of {a b x : Nat} {k : Int} (hb : 0 < b) (h : (Nat.gcd a b : Int) - (x : Int) * (a : Int) = k * (b : Int)) (hx : x < b / Nat.gcd a b) : ExtOk a b x k.natAbs (decide (k < 0)) := by
  have e : (x : Int) * (a : Int) = ((x * a : Nat) : Int) := (Int.natCast_mul x a).symm
  rw [e] at h
  refine ⟨?_, fun h0 => by omega, fun _ => hx⟩
  by_cases hk : k < 0
  · left
    obtain ⟨j, rfl⟩ : ∃ j : Nat, k = -(j : Int) := ⟨k.natAbs, by omega⟩
    rw [Int.neg_mul, ← Int.natCast_mul] at h
    rw [Int.natAbs_neg, Int.natAbs_natCast]
    refine ⟨decide_eq_true hk, by omega, by omega⟩
  · right
    obtain ⟨j, rfl⟩ : ∃ j : Nat, k = (j : Int) := ⟨k.natAbs, by omega⟩
    rw [← Int.natCast_mul] at h
    rw [Int.natAbs_natCast]
    refine ⟨decide_eq_false hk, by omega⟩
theorem ext_part {a b : Nat} (hb : 0 < b) : 0 < b / Nat.gcd a b := Nat.div_pos (Nat.le_of_dvd hb (Nat.gcd_dvd_right a b)) (Nat.gcd_pos_of_pos_right a hb)
theorem ext_law {a b : Nat} {z : Int} (hb : 0 < b) (hz : SomeOk a b z) :
    ∃ k : Int, (Nat.gcd a b : Int) - (((z % ((b / Nat.gcd a b : Nat) : Int)).toNat : Nat) : Int) * (a : Int) = k * (b : Int) ∧ (z % ((b / Nat.gcd a b : Nat) : Int)).toNat < b / Nat.gcd a b := by
  have hp := ext_part (a := a) hb
  obtain ⟨⟨j, hj⟩, _⟩ := hz
  obtain ⟨d, hd⟩ := Nat.gcd_dvd_left a b
  obtain ⟨p, hp2⟩ := Nat.gcd_dvd_right a b
  have hg : 0 < Nat.gcd a b := Nat.gcd_pos_of_pos_right a hb
  have hbp : b / Nat.gcd a b = p := by conv => lhs; arg 1; rw [hp2]
                                       exact Nat.mul_div_cancel_left p hg
  rw [hbp] at hp ⊢
  generalize Nat.gcd a b = g at *
  have h0 : 0 ≤ z % (p : Int) := Int.emod_nonneg _ (by omega)
  have h1 : z % (p : Int) < (p : Int) := Int.emod_lt_of_pos _ (by omega)
  have h2 := Int.mul_ediv_add_emod z (p : Int)
  refine ⟨(z / (p : Int)) * (d : Int) - j, ?_, by omega⟩
  rw [Int.toNat_of_nonneg h0]
  have ea : (a : Int) = (g : Int) * (d : Int) := by rw [← Int.natCast_mul, ← hd]
  have eb : (b : Int) = (g : Int) * (p : Int) := by rw [← Int.natCast_mul, ← hp2]
  have e3 : z % (p : Int) = z - (p : Int) * (z / (p : Int)) := by omega
  have e4 : (z - (p : Int) * (z / (p : Int))) * (a : Int) = z * (a : Int) - (z / (p : Int)) * (d : Int) * (b : Int) := by
    rw [Int.sub_mul, ea, eb]
    congr 1
    rw [Int.mul_comm (p : Int), Int.mul_assoc, Int.mul_assoc, Int.mul_left_comm (p : Int), Int.mul_left_comm (d : Int), Int.mul_comm (p : Int)]
  rw [e3, e4, hj, Int.sub_mul, Int.mul_comm j]
  omega
end Go.Proofs.YtamfhmmcnlollaaGreat
namespace Go.Proofs.YtamfhmmcnlollaaGreat
open Go.RowKit
set_option linter.unusedVariables false
set_option maxHeartbeats 2000000 in
theorem extended5_00 {v u : Value} {a b K : Nat} {w : World} (h : Num w v a K) (h' : Num w u b K) (ha : a = 0) (hb : b = 0) (hK1 : 1 ≤ K) (hK : K ≤ 1000000) :
    Calls Tryz.prog 40 #[v, u] w (GExt w a b (2 * K + 1)) := by
  have q0 : decide (a = 0) = true := by simpa using ha
  have q1 : decide (b = 0) = true := by simpa using hb
  have HZ := Lib.hid (And.intro ha hb)
  clear ha hb
  have H := Lib.hid h
  have H' := Lib.hid h'
  obtain ⟨_, _, _, _, rfl, _⟩ := id h
  obtain ⟨_, _, _, _, rfl, _⟩ := id h'
  clear h h'
  go_enter Tryz.func40, Tryz.ntmps40
  have HG0 : Hid (w.heap.size + 1 < Array.size (World.heap ((World.alloc (World.alloc w (.cells #[.bool false, .slice none 0 0] 60)) (.cells #[.bool false, .slice none 0 0] 60))))) := (Cel.box (i := 1) (v := .slice none 0 0) (t := 60) (b := w.heap.size + 1) (World.alloc w (.cells #[.bool false, .slice none 0 0] 60)) #[.bool false, .slice none 0 0] rfl (by simp)).2.2
  go_wp2_with fail
  refine (gcd5_any (K := K) ((H.out.below ((Below.refl _ _).alloc (Nat.le_refl _) (.cells #[.bool false, .slice none 0 0] 60))).below ((Below.refl _ _).alloc (Nat.le_refl _) (.cells #[.bool false, .slice none 0 0] 60))) ((H'.out.below ((Below.refl _ _).alloc (Nat.le_refl _) (.cells #[.bool false, .slice none 0 0] 60))).below ((Below.refl _ _).alloc (Nat.le_refl _) (.cells #[.bool false, .slice none 0 0] 60))) (by omega) (by omega) (by omega) (by omega)).mono ?_
  rintro e w1 ⟨A_g, n_g, c_g, rfl, o_g, hb1, l_g⟩
  go_wp2_with fail
  refine (zero5_any (((H'.out.below ((Below.refl _ _).alloc (Nat.le_refl _) (.cells #[.bool false, .slice none 0 0] 60))).below ((Below.refl _ _).alloc (Nat.le_refl _) (.cells #[.bool false, .slice none 0 0] 60))).below hb1) (by omega)).mono ?_
  rintro e w2 ⟨rfl, hb2⟩
  go_wp2_with fail
  refine (zero5_any ((((H.out.below ((Below.refl _ _).alloc (Nat.le_refl _) (.cells #[.bool false, .slice none 0 0] 60))).below ((Below.refl _ _).alloc (Nat.le_refl _) (.cells #[.bool false, .slice none 0 0] 60))).below hb1).below hb2) (by omega)).mono ?_
  rintro e w3 ⟨rfl, hb3⟩
  have HX0 : Hid (w.heap.size + 1 < Array.size (World.heap (w3))) := ((((Cel.box (i := 1) (v := .slice none 0 0) (t := 60) (b := w.heap.size + 1) (World.alloc w (.cells #[.bool false, .slice none 0 0] 60)) #[.bool false, .slice none 0 0] rfl (by simp)).below hb1).below hb2).below hb3).2.2
  go_wp2_with fail
  refine (Z5_nat (x := 0) rfl (by omega)).mono ?_
  rintro e w4 ⟨A_x, n_x, c_x, s_x, rfl, hs_x, o_x, hb4, l_x⟩
  obtain rfl : s_x = false := hs_x.out.trans (by simp)
  have HY0 : Hid (w.heap.size + 1 < Array.size (World.heap (w4))) := (((((Cel.box (i := 1) (v := .slice none 0 0) (t := 60) (b := w.heap.size + 1) (World.alloc w (.cells #[.bool false, .slice none 0 0] 60)) #[.bool false, .slice none 0 0] rfl (by simp)).below hb1).below hb2).below hb3).below hb4).2.2
  go_wp2_with fail
  refine (Z5_nat (x := 0) rfl (by omega)).mono ?_
  rintro e w5 ⟨A_y, n_y, c_y, s_y, rfl, hs_y, o_y, hb5, l_y⟩
  obtain rfl : s_y = false := hs_y.out.trans (by simp)
  have HOS := Lib.hid (And.intro ((((o_g.below hb2).below hb3).below hb4).below hb5) (And.intro (o_x.below hb5) o_y))
  have HBB := Lib.hid (bt (bt (bt (bt (bt (bt ((Below.refl _ _).alloc (Nat.le_refl _) (.cells #[.bool false, .slice none 0 0] 60)) ((Below.refl _ _).alloc (Nat.le_refl _) (.cells #[.bool false, .slice none 0 0] 60))) hb1) hb2) hb3) hb4) hb5)
  have c1 := (((((((Cel.box (i := 0) (v := .bool false) (t := 60) (b := w.heap.size) w #[.bool false, .slice none 0 0] rfl (by simp)).below ((Below.refl _ _).alloc (Nat.le_refl _) (.cells #[.bool false, .slice none 0 0] 60))).below hb1).below hb2).below hb3).below hb4).below hb5)
  have c2 := (((((((Cel.box (i := 1) (v := .slice none 0 0) (t := 60) (b := w.heap.size) w #[.bool false, .slice none 0 0] rfl (by simp)).below ((Below.refl _ _).alloc (Nat.le_refl _) (.cells #[.bool false, .slice none 0 0] 60))).below hb1).below hb2).below hb3).below hb4).below hb5)
  have c3 := ((((((Cel.box (i := 0) (v := .bool false) (t := 60) (b := w.heap.size + 1) (World.alloc w (.cells #[.bool false, .slice none 0 0] 60)) #[.bool false, .slice none 0 0] rfl (by simp)).below hb1).below hb2).below hb3).below hb4).below hb5)
  have c4 := ((((((Cel.box (i := 1) (v := .slice none 0 0) (t := 60) (b := w.heap.size + 1) (World.alloc w (.cells #[.bool false, .slice none 0 0] 60)) #[.bool false, .slice none 0 0] rfl (by simp)).below hb1).below hb2).below hb3).below hb4).below hb5)
  obtain ⟨c1a, c1b, c1c⟩ := c1
  obtain ⟨c2a, c2b, c2c⟩ := c2
  obtain ⟨c3a, c3b, c3c⟩ := c3
  obtain ⟨c4a, c4b, c4c⟩ := c4
  clear o_g o_x o_y
  go_wp2
  refine bodyPost_ret (v := .tuple #[.slice A_g n_g c_g, .agg #[.bool false, .slice A_x n_x c_x], .agg #[.bool false, .slice A_y n_y c_y]]) (by simp [results, Tryz.results40, go_sem, c1a, c2a, c3a, c4a]) rfl ?_
  exact ⟨0, 0, false, _, _, _, _, _, _, _, _, _, ⟨.inr ⟨rfl, by rw [HZ.out.1, HZ.out.2]; rfl⟩, fun _ => ⟨rfl, by rw [if_pos HZ.out.1]⟩, fun h => by have := HZ.out.2; omega⟩, rfl, ⟨(HOS.out.1.set4 HG0.out).mono (by have := HG0.out; omega), (HOS.out.2.1.set4 HX0.out).mono (by have := HX0.out; omega), (HOS.out.2.2.set4 HY0.out).mono (by have := HY0.out; omega)⟩, (((HBB.out.setCell (p := ⟨w.heap.size, 0, none⟩) (Nat.le_refl _) _).setCell (p := ⟨w.heap.size, 1, none⟩) (Nat.le_refl _) _).setCell (p := ⟨w.heap.size + 1, 0, none⟩) (by simp) _).setCell (p := ⟨w.heap.size + 1, 1, none⟩) (by simp) _, by omega, by omega, by omega⟩
set_option maxHeartbeats 2000000 in
theorem extended5_a0 {v u : Value} {a b K : Nat} {w : World} (h : Num w v a K) (h' : Num w u b K) (ha : 0 < a) (hb : b = 0) (hK1 : 1 ≤ K) (hK : K ≤ 1000000) :
    Calls Tryz.prog 40 #[v, u] w (GExt w a b (2 * K + 1)) := by
  have q0 : decide (a = 0) = false := by simp; omega
  have q1 : decide (b = 0) = true := by simpa using hb
  have HZ := Lib.hid (And.intro ha hb)
  clear ha hb
  have H := Lib.hid h
  have H' := Lib.hid h'
  obtain ⟨_, _, _, _, rfl, _⟩ := id h
  obtain ⟨_, _, _, _, rfl, _⟩ := id h'
  clear h h'
  go_enter Tryz.func40, Tryz.ntmps40
  have HG0 : Hid (w.heap.size + 1 < Array.size (World.heap ((World.alloc (World.alloc w (.cells #[.bool false, .slice none 0 0] 60)) (.cells #[.bool false, .slice none 0 0] 60))))) := (Cel.box (i := 1) (v := .slice none 0 0) (t := 60) (b := w.heap.size + 1) (World.alloc w (.cells #[.bool false, .slice none 0 0] 60)) #[.bool false, .slice none 0 0] rfl (by simp)).2.2
  go_wp2_with fail
  refine (gcd5_any (K := K) ((H.out.below ((Below.refl _ _).alloc (Nat.le_refl _) (.cells #[.bool false, .slice none 0 0] 60))).below ((Below.refl _ _).alloc (Nat.le_refl _) (.cells #[.bool false, .slice none 0 0] 60))) ((H'.out.below ((Below.refl _ _).alloc (Nat.le_refl _) (.cells #[.bool false, .slice none 0 0] 60))).below ((Below.refl _ _).alloc (Nat.le_refl _) (.cells #[.bool false, .slice none 0 0] 60))) (by omega) (by omega) (by omega) (by omega)).mono ?_
  rintro e w1 ⟨A_g, n_g, c_g, rfl, o_g, hb1, l_g⟩
  go_wp2_with fail
  refine (zero5_any (((H'.out.below ((Below.refl _ _).alloc (Nat.le_refl _) (.cells #[.bool false, .slice none 0 0] 60))).below ((Below.refl _ _).alloc (Nat.le_refl _) (.cells #[.bool false, .slice none 0 0] 60))).below hb1) (by omega)).mono ?_
  rintro e w2 ⟨rfl, hb2⟩
  go_wp2_with fail
  refine (zero5_any ((((H.out.below ((Below.refl _ _).alloc (Nat.le_refl _) (.cells #[.bool false, .slice none 0 0] 60))).below ((Below.refl _ _).alloc (Nat.le_refl _) (.cells #[.bool false, .slice none 0 0] 60))).below hb1).below hb2) (by omega)).mono ?_
  rintro e w3 ⟨rfl, hb3⟩
  have HX0 : Hid (w.heap.size + 1 < Array.size (World.heap (w3))) := ((((Cel.box (i := 1) (v := .slice none 0 0) (t := 60) (b := w.heap.size + 1) (World.alloc w (.cells #[.bool false, .slice none 0 0] 60)) #[.bool false, .slice none 0 0] rfl (by simp)).below hb1).below hb2).below hb3).2.2
  go_wp2_with fail
  refine (Z5_nat (x := 1) rfl (by omega)).mono ?_
  rintro e w4 ⟨A_x, n_x, c_x, s_x, rfl, hs_x, o_x, hb4, l_x⟩
  obtain rfl : s_x = false := hs_x.out.trans (by simp)
  have HY0 : Hid (w.heap.size + 1 < Array.size (World.heap (w4))) := (((((Cel.box (i := 1) (v := .slice none 0 0) (t := 60) (b := w.heap.size + 1) (World.alloc w (.cells #[.bool false, .slice none 0 0] 60)) #[.bool false, .slice none 0 0] rfl (by simp)).below hb1).below hb2).below hb3).below hb4).2.2
  go_wp2_with fail
  refine (Z5_nat (x := 0) rfl (by omega)).mono ?_
  rintro e w5 ⟨A_y, n_y, c_y, s_y, rfl, hs_y, o_y, hb5, l_y⟩
  obtain rfl : s_y = false := hs_y.out.trans (by simp)
  have HOS := Lib.hid (And.intro ((((o_g.below hb2).below hb3).below hb4).below hb5) (And.intro (o_x.below hb5) o_y))
  have HBB := Lib.hid (bt (bt (bt (bt (bt (bt ((Below.refl _ _).alloc (Nat.le_refl _) (.cells #[.bool false, .slice none 0 0] 60)) ((Below.refl _ _).alloc (Nat.le_refl _) (.cells #[.bool false, .slice none 0 0] 60))) hb1) hb2) hb3) hb4) hb5)
  have c1 := (((((((Cel.box (i := 0) (v := .bool false) (t := 60) (b := w.heap.size) w #[.bool false, .slice none 0 0] rfl (by simp)).below ((Below.refl _ _).alloc (Nat.le_refl _) (.cells #[.bool false, .slice none 0 0] 60))).below hb1).below hb2).below hb3).below hb4).below hb5)
  have c2 := (((((((Cel.box (i := 1) (v := .slice none 0 0) (t := 60) (b := w.heap.size) w #[.bool false, .slice none 0 0] rfl (by simp)).below ((Below.refl _ _).alloc (Nat.le_refl _) (.cells #[.bool false, .slice none 0 0] 60))).below hb1).below hb2).below hb3).below hb4).below hb5)
  have c3 := ((((((Cel.box (i := 0) (v := .bool false) (t := 60) (b := w.heap.size + 1) (World.alloc w (.cells #[.bool false, .slice none 0 0] 60)) #[.bool false, .slice none 0 0] rfl (by simp)).below hb1).below hb2).below hb3).below hb4).below hb5)
  have c4 := ((((((Cel.box (i := 1) (v := .slice none 0 0) (t := 60) (b := w.heap.size + 1) (World.alloc w (.cells #[.bool false, .slice none 0 0] 60)) #[.bool false, .slice none 0 0] rfl (by simp)).below hb1).below hb2).below hb3).below hb4).below hb5)
  obtain ⟨c1a, c1b, c1c⟩ := c1
  obtain ⟨c2a, c2b, c2c⟩ := c2
  obtain ⟨c3a, c3b, c3c⟩ := c3
  obtain ⟨c4a, c4b, c4c⟩ := c4
  clear o_g o_x o_y
  go_wp2
  refine bodyPost_ret (v := .tuple #[.slice A_g n_g c_g, .agg #[.bool false, .slice A_x n_x c_x], .agg #[.bool false, .slice A_y n_y c_y]]) (by simp [results, Tryz.results40, go_sem, c1a, c2a, c3a, c4a]) rfl ?_
  exact ⟨1, 0, false, _, _, _, _, _, _, _, _, _, ⟨.inr ⟨rfl, by rw [HZ.out.2, Nat.gcd_zero_right]; simp⟩, fun _ => ⟨rfl, by rw [if_neg (by have := HZ.out.1; omega)]⟩, fun h => by have := HZ.out.2; omega⟩, rfl, ⟨(HOS.out.1.set4 HG0.out).mono (by have := HG0.out; omega), (HOS.out.2.1.set4 HX0.out).mono (by have := HX0.out; omega), (HOS.out.2.2.set4 HY0.out).mono (by have := HY0.out; omega)⟩, (((HBB.out.setCell (p := ⟨w.heap.size, 0, none⟩) (Nat.le_refl _) _).setCell (p := ⟨w.heap.size, 1, none⟩) (Nat.le_refl _) _).setCell (p := ⟨w.heap.size + 1, 0, none⟩) (by simp) _).setCell (p := ⟨w.heap.size + 1, 1, none⟩) (by simp) _, by omega, by omega, by omega⟩
set_option maxHeartbeats 8000000 in
set_option maxRecDepth 100000 in
theorem extended5_0b {v u : Value} {a b K : Nat} {w : World} (h : Num w v a K) (h' : Num w u b K) (ha : a = 0) (hb : 0 < b) (hK1 : 1 ≤ K) (hK : K ≤ 1000000) :
    Calls Tryz.prog 40 #[v, u] w (GExt w a b (2 * K + 1)) := by
  have q0 : decide (a = 0) = true := by simpa using ha
  have q1 : decide (b = 0) = false := by simp; omega
  have HA := Lib.hid ha
  have HB0 := Lib.hid hb
  have HG1 : Hid (0 < Nat.gcd a b) := Nat.gcd_pos_of_pos_right a hb
  obtain ⟨k, hk⟩ : ∃ k : Int, k = 1 := ⟨_, rfl⟩
  have HK : Hid (sg false (Nat.gcd a b) - ((0 : Nat) : Int) * sg false a = k * sg false b) := by
    show _ = _
    rw [hk, ha, Nat.gcd_zero_left]
    simp [sg_false]
  have HOK : Hid (ExtOk a b 0 k.natAbs (decide (k < 0))) := extok_of hb (by
    rw [hk, ha, Nat.gcd_zero_left]; simp) (ext_part hb)
  clear ha hb hk
  have H := Lib.hid h
  have H' := Lib.hid h'
  obtain ⟨_, _, _, _, rfl, _⟩ := id h
  obtain ⟨_, _, _, _, rfl, _⟩ := id h'
  clear h h'
  go_enter Tryz.func40, Tryz.ntmps40
  have HG0 : Hid (w.heap.size + 1 < Array.size (World.heap ((World.alloc (World.alloc w (.cells #[.bool false, .slice none 0 0] 60)) (.cells #[.bool false, .slice none 0 0] 60))))) := (Cel.box (i := 1) (v := .slice none 0 0) (t := 60) (b := w.heap.size + 1) (World.alloc w (.cells #[.bool false, .slice none 0 0] 60)) #[.bool false, .slice none 0 0] rfl (by simp)).2.2
  go_wp2_with fail
  refine (gcd5_any (K := K) ((H.out.below ((Below.refl _ _).alloc (Nat.le_refl _) (.cells #[.bool false, .slice none 0 0] 60))).below ((Below.refl _ _).alloc (Nat.le_refl _) (.cells #[.bool false, .slice none 0 0] 60))) ((H'.out.below ((Below.refl _ _).alloc (Nat.le_refl _) (.cells #[.bool false, .slice none 0 0] 60))).below ((Below.refl _ _).alloc (Nat.le_refl _) (.cells #[.bool false, .slice none 0 0] 60))) (by omega) (by omega) (by omega) (by omega)).mono ?_
  rintro e w1 ⟨A_g, n_g, c_g, rfl, o_g, hb1, l_g⟩
  go_wp2_with fail
  refine (zero5_any (((H'.out.below ((Below.refl _ _).alloc (Nat.le_refl _) (.cells #[.bool false, .slice none 0 0] 60))).below ((Below.refl _ _).alloc (Nat.le_refl _) (.cells #[.bool false, .slice none 0 0] 60))).below hb1) (by omega)).mono ?_
  rintro e w2 ⟨rfl, hb2⟩
  go_wp2_with fail
  refine (quo5_any ((((H'.out.below ((Below.refl _ _).alloc (Nat.le_refl _) (.cells #[.bool false, .slice none 0 0] 60))).below ((Below.refl _ _).alloc (Nat.le_refl _) (.cells #[.bool false, .slice none 0 0] 60))).below hb1).below hb2) ((o_g.num l_g).below hb2) HG1.out (by omega) (by omega) (by omega) (by omega)).mono ?_
  rintro e w3 ⟨A_part, n_part, c_part, A_rr, n_rr, c_rr, rfl, o_part, o_rr, hb3, l_part, l_rr⟩
  have HX0 : Hid (w.heap.size + 1 < Array.size (World.heap (w3))) := ((((Cel.box (i := 1) (v := .slice none 0 0) (t := 60) (b := w.heap.size + 1) (World.alloc w (.cells #[.bool false, .slice none 0 0] 60)) #[.bool false, .slice none 0 0] rfl (by simp)).below hb1).below hb2).below hb3).2.2
  go_wp2_with fail
  refine (Z5_nat (x := 0) rfl (by omega)).mono ?_
  rintro e w4 ⟨A_x, n_x, c_x, s_x, rfl, hs_x, o_x, hb4, l_x⟩
  obtain rfl : s_x = false := hs_x.out.trans (by simp)
  have HSX := Lib.hid (sg_of hs_x.out)
  have hxb : w.heap.size + 1 < Array.size (World.heap (w4)) := (((((Cel.box (i := 1) (v := .slice none 0 0) (t := 60) (b := w.heap.size + 1) (World.alloc w (.cells #[.bool false, .slice none 0 0] 60)) #[.bool false, .slice none 0 0] rfl (by simp)).below hb1).below hb2).below hb3).below hb4).2.2
  go_wp2_with fail
  refine (zero5_any (((((((H.out.below ((Below.refl _ _).alloc (Nat.le_refl _) (.cells #[.bool false, .slice none 0 0] 60))).below ((Below.refl _ _).alloc (Nat.le_refl _) (.cells #[.bool false, .slice none 0 0] 60))).below hb1).below hb2).below hb3).below hb4).below ((Below.refl _ _).alloc (Nat.le_refl _) (.cells #[.bool false, .slice A_x n_x c_x] 60))) (by omega)).mono ?_
  rintro e w5 ⟨rfl, hb5⟩
  have HWT : Hid (w.heap.size + 1 < Array.size (World.heap (w5))) := (((((((Cel.box (i := 1) (v := .slice none 0 0) (t := 60) (b := w.heap.size + 1) (World.alloc w (.cells #[.bool false, .slice none 0 0] 60)) #[.bool false, .slice none 0 0] rfl (by simp)).below hb1).below hb2).below hb3).below hb4).below ((Below.refl _ _).alloc (Nat.le_refl _) (.cells #[.bool false, .slice A_x n_x c_x] 60))).below hb5).2.2
  go_wp2_with fail
  have e_x0 := ((At.boxc (i := 0) (v := .bool false) (t := 60) (b := w4.heap.size) w4 #[.bool false, .slice A_x n_x c_x] rfl (by simp)).below hb5).1
  have g_x0 := At.growB ((At.boxc (i := 0) (v := .bool false) (t := 60) (b := w4.heap.size) w4 #[.bool false, .slice A_x n_x c_x] rfl (by simp)).below hb5)
  have e_x1 := ((At.boxc (i := 1) (v := .slice A_x n_x c_x) (t := 60) (b := w4.heap.size) w4 #[.bool false, .slice A_x n_x c_x] rfl (by simp)).below hb5).1
  have g_x1 := At.growB ((At.boxc (i := 1) (v := .slice A_x n_x c_x) (t := 60) (b := w4.heap.size) w4 #[.bool false, .slice A_x n_x c_x] rfl (by simp)).below hb5)
  refine wp_region_fltR (KB (w5).heap.size) (KB.refl _) (KB.trans _) (KB.of_grow _) [(0, 0), (0, 2), (0, 3), (0, 7), (2, 10), (1, 1), (1, 4), (1, 5), (1, 6), (1, 8), (1, 9), (4, 10), (3, 11)] (by kernel_rfl) (by kernel_rfl) ?_
  repeat (refine flt_pas (by rfl) (fun K hK => ?_); go_simp; refine hK _ _ (fun w' hw' => (by first | (go_simp; done) | (go_simp; intro hh; cases hh))) ?_; clear hK K)
  refine flt_alloc ((World.drew w5).heap.size) 60 #[.bool false, .slice none 0 0] (by rfl) rfl (fun w1 => (by go_simp)) (Nat.le_refl _) ?_
  refine flt_call (by rfl) (fun w6 hw6 K hK => ?_); go_simp; refine hK _ _ ?_; clear hK K
  refine (I5_any (s := false) ((((((((o_g.num l_g).below hb2).below hb3).below hb4).below ((Below.refl _ _).alloc (Nat.le_refl _) (.cells #[.bool false, .slice A_x n_x c_x] 60))).below hb5).below (below_drewN _ 1)).below hw6.below) (by omega)).mono ?_
  rintro e w7 ⟨A_i1, n_i1, c_i1, s_i1, rfl, hs_i1, o_i1, hb7, l_i1⟩
  refine ⟨_, rfl, Grow.of_below hb7, ?_⟩
  (refine flt_norm (fun K hK => ?_); go_simp; refine hK _ ?_; clear hK K)
  refine flt_call (by rfl) (fun w8 hw8 K hK => ?_); go_simp; refine hK _ _ ?_; clear hK K
  refine (I5_any (s := false) ((((((((((((H.out.below ((Below.refl _ _).alloc (Nat.le_refl _) (.cells #[.bool false, .slice none 0 0] 60))).below ((Below.refl _ _).alloc (Nat.le_refl _) (.cells #[.bool false, .slice none 0 0] 60))).below hb1).below hb2).below hb3).below hb4).below ((Below.refl _ _).alloc (Nat.le_refl _) (.cells #[.bool false, .slice A_x n_x c_x] 60))).below hb5).below (below_drewN _ 1)).below hw6.below).below hb7).below hw8.below) (by omega)).mono ?_
  rintro e w9 ⟨A_i2, n_i2, c_i2, s_i2, rfl, hs_i2, o_i2, hb9, l_i2⟩
  refine ⟨_, rfl, Grow.of_below hb9, ?_⟩
  (refine flt_norm (fun K hK => ?_); go_simp; refine hK _ ?_; clear hK K)
  refine flt_call (by rfl) (fun w10 hw10 K hK => ?_); go_simp; refine hK _ _ ?_; clear hK K
  refine (mul5_any (((((((((o_x.num l_x).below ((Below.refl _ _).alloc (Nat.le_refl _) (.cells #[.bool false, .slice A_x n_x c_x] 60))).below hb5).below (below_drewN _ 1)).below hw6.below).below hb7).below hw8.below).below hb9).below hw10.below) ((o_i2.num l_i2).below hw10.below) HSX.out (sg_of hs_i2.out) (by omega) (by omega)).mono ?_
  rintro e w11 ⟨A_m1, n_m1, c_m1, s_m1, rfl, hs_m1, o_m1, hb11, l_m1⟩
  refine ⟨_, rfl, Grow.of_below hb11, ?_⟩
  (refine flt_norm (fun K hK => ?_); go_simp; refine hK _ ?_; clear hK K)
  refine flt_call (by rfl) (fun w12 hw12 K hK => ?_); go_simp; refine hK _ _ ?_; clear hK K
  refine (sub5_any ((((((o_i1.num l_i1).below hw8.below).below hb9).below hw10.below).below hb11).below hw12.below) ((o_m1.num l_m1).below hw12.below) (sg_of hs_i1.out) (sg_of hs_m1.out) (by omega) (by omega) (by omega) (by omega)).mono ?_
  rintro e w13 ⟨A_d1, n_d1, c_d1, s_d1, rfl, hs_d1, o_d1, hb13, l_d1⟩
  refine ⟨_, rfl, Grow.of_below hb13, ?_⟩
  (refine flt_norm (fun K hK => ?_); go_simp; refine hK _ ?_; clear hK K)
  refine flt_call (by rfl) (fun w14 hw14 K hK => ?_); go_simp; refine hK _ _ ?_; clear hK K
  refine (I5_any (s := false) ((((((((((((((((((H'.out.below ((Below.refl _ _).alloc (Nat.le_refl _) (.cells #[.bool false, .slice none 0 0] 60))).below ((Below.refl _ _).alloc (Nat.le_refl _) (.cells #[.bool false, .slice none 0 0] 60))).below hb1).below hb2).below hb3).below hb4).below ((Below.refl _ _).alloc (Nat.le_refl _) (.cells #[.bool false, .slice A_x n_x c_x] 60))).below hb5).below (below_drewN _ 1)).below hw6.below).below hb7).below hw8.below).below hb9).below hw10.below).below hb11).below hw12.below).below hb13).below hw14.below) (by omega)).mono ?_
  rintro e w15 ⟨A_i3, n_i3, c_i3, s_i3, rfl, hs_i3, o_i3, hb15, l_i3⟩
  refine ⟨_, rfl, Grow.of_below hb15, ?_⟩
  (refine flt_norm (fun K hK => ?_); go_simp; refine hK _ ?_; clear hK K)
  refine flt_call (by rfl) (fun w16 hw16 K hK => ?_); go_simp; refine hK _ _ ?_; clear hK K
  refine (exact5_any ((((o_d1.num l_d1).below hw14.below).below hb15).below hw16.below) ((o_i3.num l_i3).below hw16.below) (k := k) (by rw [(sg_of hs_d1.out), (sg_of hs_i3.out)]; exact HK.out) (by rw [sg_false]; exact HB0.out) (by omega) (by omega) (by omega) (by omega)).mono ?_
  rintro e w17 ⟨A_y, n_y, c_y, s_y, rfl, hs_y, o_y, hb17, l_y⟩
  refine ⟨_, rfl, Grow.of_below hb17, ?_⟩
  (refine flt_norm (fun K hK => ?_); go_simp; refine hK _ ?_; clear hK K)
  refine flt_land (by rfl) (fun v_zb w18 hw18 hF => ?_)
  obtain ⟨b_zb, rfl, hB_zb, hc_zb⟩ := hF
  (refine flt_norm (fun K hK => ?_); go_simp; refine hK _ ?_; clear hK K)
  obtain ⟨cz1, cz2, cz3⟩ := cel_of hc_zb (j := 0) rfl
  obtain ⟨cz4, cz5, cz6⟩ := cel_of hc_zb (j := 1) rfl
  (refine flt_actX (by rfl) (fun K hK => ?_); go_simp)
  refine hK _ _ ⟨KB.set2 hB_zb, ?_⟩
  clear hK K
  repeat (refine flt_pas (by rfl) (fun K hK => ?_); go_simp; refine hK _ _ (fun w' hw' => (by first | (go_simp; done) | (go_simp; intro hh; cases hh))) ?_; clear hK K)
  refine flt_nil ?_
  clear g_x0 e_x0 g_x1 e_x1
  have HKX : Hid ((∃ B, w.heap.size + 1 < B ∧ Own .u64 41 B (w18) A_y n_y c_y (dg W k.natAbs)) ∧ Below ((World.drew w5)).heap.size ((World.drew w5)) (w18)) := ⟨⟨_, Nat.lt_of_lt_of_le HWT.out (bt (bt (bt (bt (bt (bt (bt (bt (bt (bt hw6.below hb7) hw8.below) hb9) hw10.below) hb11) hw12.below) hb13) hw14.below) hb15) hw16.below).size, (o_y.below hw18.below)⟩, (bt (bt (bt (bt (bt (bt (bt (bt (bt (bt (bt (bt hw6.below hb7) hw8.below) hb9) hw10.below) hb11) hw12.below) hb13) hw14.below) hb15) hw16.below) hb17) hw18.below)⟩
  obtain ⟨wz, hwz⟩ : ∃ wz : World, wz = ((w18).setCell ⟨b_zb, 0, none⟩ (.bool s_y)).setCell ⟨b_zb, 1, none⟩ (.slice A_y n_y c_y) := ⟨_, rfl⟩
  rw [← hwz]
  have HZ : Hid (Below ((World.drew w5)).heap.size ((World.drew w5)) wz ∧ At wz ⟨b_zb, 0, none⟩ (.bool s_y) ∧ At wz ⟨b_zb, 1, none⟩ (.slice A_y n_y c_y) ∧ ∃ B, w.heap.size + 1 < B ∧ Own .u64 41 B wz A_y n_y c_y (dg W k.natAbs)) := by
    rw [hwz]
    refine ⟨((HKX.out.2).setCell (p := ⟨b_zb, 0, none⟩) hB_zb _).setCell (p := ⟨b_zb, 1, none⟩) hB_zb _, Cel.at ((Cel.put ⟨cz1, cz2, cz3⟩).set (by simp)), Cel.at ((Cel.set ⟨cz4, cz5, cz6⟩ (by simp)).put), ?_⟩
    have hb : BoxT 60 b_zb _ := ⟨_, _, hc_zb⟩
    obtain ⟨B, hB, ho⟩ := HKX.out.1
    exact ⟨B, hB, (ho.set_ty (p := ⟨b_zb, 0, none⟩) hb (by decide)).set_ty (p := ⟨b_zb, 1, none⟩) hb.set (by decide)⟩
  clear HKX
  clear cz1 cz2 cz3 cz4 cz5 cz6 hwz hc_zb o_i1 o_m1 o_i2 o_d1 o_i3 o_y
  have hzb : w.heap.size + 1 < b_zb := Nat.lt_of_lt_of_le HWT.out hB_zb
  have c1 := ((((((((((Cel.box (i := 0) (v := .bool false) (t := 60) (b := w.heap.size) w #[.bool false, .slice none 0 0] rfl (by simp)).below ((Below.refl _ _).alloc (Nat.le_refl _) (.cells #[.bool false, .slice none 0 0] 60))).below hb1).below hb2).below hb3).below hb4).below ((Below.refl _ _).alloc (Nat.le_refl _) (.cells #[.bool false, .slice A_x n_x c_x] 60))).below hb5).below (below_drewN _ 1)).below HZ.out.1)
  have c2 := ((((((((((Cel.box (i := 1) (v := .slice none 0 0) (t := 60) (b := w.heap.size) w #[.bool false, .slice none 0 0] rfl (by simp)).below ((Below.refl _ _).alloc (Nat.le_refl _) (.cells #[.bool false, .slice none 0 0] 60))).below hb1).below hb2).below hb3).below hb4).below ((Below.refl _ _).alloc (Nat.le_refl _) (.cells #[.bool false, .slice A_x n_x c_x] 60))).below hb5).below (below_drewN _ 1)).below HZ.out.1)
  have c3 := (((((((((Cel.box (i := 0) (v := .bool false) (t := 60) (b := w.heap.size + 1) (World.alloc w (.cells #[.bool false, .slice none 0 0] 60)) #[.bool false, .slice none 0 0] rfl (by simp)).below hb1).below hb2).below hb3).below hb4).below ((Below.refl _ _).alloc (Nat.le_refl _) (.cells #[.bool false, .slice A_x n_x c_x] 60))).below hb5).below (below_drewN _ 1)).below HZ.out.1)
  have c4 := (((((((((Cel.box (i := 1) (v := .slice none 0 0) (t := 60) (b := w.heap.size + 1) (World.alloc w (.cells #[.bool false, .slice none 0 0] 60)) #[.bool false, .slice none 0 0] rfl (by simp)).below hb1).below hb2).below hb3).below hb4).below ((Below.refl _ _).alloc (Nat.le_refl _) (.cells #[.bool false, .slice A_x n_x c_x] 60))).below hb5).below (below_drewN _ 1)).below HZ.out.1)
  obtain ⟨c1a, c1b, c1c⟩ := c1
  obtain ⟨c2a, c2b, c2c⟩ := c2
  obtain ⟨c3a, c3b, c3c⟩ := c3
  obtain ⟨c4a, c4b, c4c⟩ := c4
  go_wp2_with fail
  have e_x0 := ((((At.boxc (i := 0) (v := .bool false) (t := 60) (b := w4.heap.size) w4 #[.bool false, .slice A_x n_x c_x] rfl (by simp)).below hb5).below (below_drewN _ 1)).below HZ.out.1).1
  have g_x0 := At.growE (b1 := w.heap.size) (b2 := (w.heap.size + 1)) ((((At.boxc (i := 0) (v := .bool false) (t := 60) (b := w4.heap.size) w4 #[.bool false, .slice A_x n_x c_x] rfl (by simp)).below hb5).below (below_drewN _ 1)).below HZ.out.1) (by simp <;> omega) (by simp <;> omega)
  have e_x1 := ((((At.boxc (i := 1) (v := .slice A_x n_x c_x) (t := 60) (b := w4.heap.size) w4 #[.bool false, .slice A_x n_x c_x] rfl (by simp)).below hb5).below (below_drewN _ 1)).below HZ.out.1).1
  have g_x1 := At.growE (b1 := w.heap.size) (b2 := (w.heap.size + 1)) ((((At.boxc (i := 1) (v := .slice A_x n_x c_x) (t := 60) (b := w4.heap.size) w4 #[.bool false, .slice A_x n_x c_x] rfl (by simp)).below hb5).below (below_drewN _ 1)).below HZ.out.1) (by simp <;> omega) (by simp <;> omega)
  have e_z0 := HZ.out.2.1.1
  have g_z0 := At.growE (b1 := w.heap.size) (b2 := (w.heap.size + 1)) HZ.out.2.1 (by simp <;> omega) (by simp <;> omega)
  have e_z1 := HZ.out.2.2.1.1
  have g_z1 := At.growE (b1 := w.heap.size) (b2 := (w.heap.size + 1)) HZ.out.2.2.1 (by simp <;> omega) (by simp <;> omega)
  refine wp_region_fltR (KE w.heap.size (w.heap.size + 1)) (KE.refl _ _) (KE.trans _ _) (KE.of_grow _ _) [(0, 0), (0, 1), (0, 2), (0, 3), (3, 4), (3, 5)] (by kernel_rfl) (by kernel_rfl) ?_
  repeat (refine flt_pasE (by rfl) (fun K hK => ?_); go_simp; refine hK _ _ (fun w' hw' => (by first | (go_simp; done) | (go_simp; intro hh; cases hh))) ?_; clear hK K)
  (refine flt_actX (by rfl) (fun K hK => ?_); go_simp)
  refine hK _ _ ⟨KE.set2 (.inl rfl), ?_⟩
  clear hK K
  (refine flt_norm (fun K hK => ?_); go_simp; refine hK _ ?_; clear hK K)
  (refine flt_actX (by rfl) (fun K hK => ?_); go_simp)
  refine hK _ _ ⟨KE.set2 (.inr rfl), ?_⟩
  clear hK K
  refine flt_nil ?_
  have HOG := Lib.hid ((((((((o_g.below hb2).below hb3).below hb4).below ((Below.refl _ _).alloc (Nat.le_refl _) (.cells #[.bool false, .slice A_x n_x c_x] 60))).below hb5).below (below_drewN _ 1)).below HZ.out.1).below (below_drewN _ 1))
  have HOX := Lib.hid (((((o_x.below ((Below.refl _ _).alloc (Nat.le_refl _) (.cells #[.bool false, .slice A_x n_x c_x] 60))).below hb5).below (below_drewN _ 1)).below HZ.out.1).below (below_drewN _ 1))
  have HBB := Lib.hid (bt (bt (bt (bt (bt (bt (bt (bt (bt (bt ((Below.refl _ _).alloc (Nat.le_refl _) (.cells #[.bool false, .slice none 0 0] 60)) ((Below.refl _ _).alloc (Nat.le_refl _) (.cells #[.bool false, .slice none 0 0] 60))) hb1) hb2) hb3) hb4) ((Below.refl _ _).alloc (Nat.le_refl _) (.cells #[.bool false, .slice A_x n_x c_x] 60))) hb5) (below_drewN _ 1)) HZ.out.1) (below_drewN _ 1))
  go_wp2
  refine bodyPost_ret (v := .tuple #[.slice A_g n_g c_g, .agg #[.bool false, .slice A_x n_x c_x], .agg #[.bool s_y, .slice A_y n_y c_y]]) (by simp [results, Tryz.results40, go_sem, c1a, c2a, c3a, c4a]) rfl ?_
  obtain ⟨B, hB, hoy⟩ := HZ.out.2.2.2
  refine ⟨0, k.natAbs, s_y, _, _, _, _, _, _, _, _, _, by rw [hs_y.out]; exact HOK.out, rfl, ⟨(HOG.out.set4 HG0.out).mono (by have := HG0.out; omega), (HOX.out.set4 HX0.out).mono (by have := HX0.out; omega), ((show Own _ _ _ (World.drew wz) _ _ _ _ from hoy).set4 hB).mono (by omega)⟩, (((HBB.out.setCell (p := ⟨w.heap.size, 0, none⟩) (Nat.le_refl _) _).setCell (p := ⟨w.heap.size, 1, none⟩) (Nat.le_refl _) _).setCell (p := ⟨w.heap.size + 1, 0, none⟩) (by simp) _).setCell (p := ⟨w.heap.size + 1, 1, none⟩) (by simp) _, by omega, by omega, by omega⟩
set_option maxHeartbeats 8000000 in
set_option maxRecDepth 100000 in
theorem extended5_ab {v u : Value} {a b K : Nat} {w : World} (h : Num w v a K) (h' : Num w u b K) (ha : 0 < a) (hb : 0 < b) (hK1 : 1 ≤ K) (hK : K ≤ 1000000) :
    Calls Tryz.prog 40 #[v, u] w (GExt w a b (2 * K + 1)) := by
  have q0 : decide (a = 0) = false := by simp; omega
  have q1 : decide (b = 0) = false := by simp; omega
  have HA := Lib.hid ha
  have HB0 := Lib.hid hb
  have HG1 : Hid (0 < Nat.gcd a b) := Nat.gcd_pos_of_pos_right a hb
  have HPP : Hid (0 < b / Nat.gcd a b) := ext_part hb
  clear ha hb
  have H := Lib.hid h
  have H' := Lib.hid h'
  obtain ⟨_, _, _, _, rfl, _⟩ := id h
  obtain ⟨_, _, _, _, rfl, _⟩ := id h'
  clear h h'
  go_enter Tryz.func40, Tryz.ntmps40
  have HG0 : Hid (w.heap.size + 1 < Array.size (World.heap ((World.alloc (World.alloc w (.cells #[.bool false, .slice none 0 0] 60)) (.cells #[.bool false, .slice none 0 0] 60))))) := (Cel.box (i := 1) (v := .slice none 0 0) (t := 60) (b := w.heap.size + 1) (World.alloc w (.cells #[.bool false, .slice none 0 0] 60)) #[.bool false, .slice none 0 0] rfl (by simp)).2.2
  go_wp2_with fail
  refine (gcd5_any (K := K) ((H.out.below ((Below.refl _ _).alloc (Nat.le_refl _) (.cells #[.bool false, .slice none 0 0] 60))).below ((Below.refl _ _).alloc (Nat.le_refl _) (.cells #[.bool false, .slice none 0 0] 60))) ((H'.out.below ((Below.refl _ _).alloc (Nat.le_refl _) (.cells #[.bool false, .slice none 0 0] 60))).below ((Below.refl _ _).alloc (Nat.le_refl _) (.cells #[.bool false, .slice none 0 0] 60))) (by omega) (by omega) (by omega) (by omega)).mono ?_
  rintro e w1 ⟨A_g, n_g, c_g, rfl, o_g, hb1, l_g⟩
  go_wp2_with fail
  refine (zero5_any (((H'.out.below ((Below.refl _ _).alloc (Nat.le_refl _) (.cells #[.bool false, .slice none 0 0] 60))).below ((Below.refl _ _).alloc (Nat.le_refl _) (.cells #[.bool false, .slice none 0 0] 60))).below hb1) (by omega)).mono ?_
  rintro e w2 ⟨rfl, hb2⟩
  go_wp2_with fail
  refine (quo5_any ((((H'.out.below ((Below.refl _ _).alloc (Nat.le_refl _) (.cells #[.bool false, .slice none 0 0] 60))).below ((Below.refl _ _).alloc (Nat.le_refl _) (.cells #[.bool false, .slice none 0 0] 60))).below hb1).below hb2) ((o_g.num l_g).below hb2) HG1.out (by omega) (by omega) (by omega) (by omega)).mono ?_
  rintro e w3 ⟨A_part, n_part, c_part, A_rr, n_rr, c_rr, rfl, o_part, o_rr, hb3, l_part, l_rr⟩
  go_wp2_with fail
  refine (Z5_nat (x := 0) rfl (by omega)).mono ?_
  rintro e w4 ⟨A_x9, n_x9, c_x9, s_x9, rfl, hs_x9, o_x9, hb4, l_x9⟩
  have hxb : w.heap.size + 1 < Array.size (World.heap (w4)) := (((((Cel.box (i := 1) (v := .slice none 0 0) (t := 60) (b := w.heap.size + 1) (World.alloc w (.cells #[.bool false, .slice none 0 0] 60)) #[.bool false, .slice none 0 0] rfl (by simp)).below hb1).below hb2).below hb3).below hb4).2.2
  go_wp2_with fail
  refine (zero5_any (((((((H.out.below ((Below.refl _ _).alloc (Nat.le_refl _) (.cells #[.bool false, .slice none 0 0] 60))).below ((Below.refl _ _).alloc (Nat.le_refl _) (.cells #[.bool false, .slice none 0 0] 60))).below hb1).below hb2).below hb3).below hb4).below ((Below.refl _ _).alloc (Nat.le_refl _) (.cells #[.bool s_x9, .slice A_x9 n_x9 c_x9] 60))) (by omega)).mono ?_
  rintro e w5 ⟨rfl, hb5⟩
  go_wp2_with fail
  refine (some5_any hK1 hK a ((((((((H.out.below ((Below.refl _ _).alloc (Nat.le_refl _) (.cells #[.bool false, .slice none 0 0] 60))).below ((Below.refl _ _).alloc (Nat.le_refl _) (.cells #[.bool false, .slice none 0 0] 60))).below hb1).below hb2).below hb3).below hb4).below ((Below.refl _ _).alloc (Nat.le_refl _) (.cells #[.bool s_x9, .slice A_x9 n_x9 c_x9] 60))).below hb5) ((((((((H'.out.below ((Below.refl _ _).alloc (Nat.le_refl _) (.cells #[.bool false, .slice none 0 0] 60))).below ((Below.refl _ _).alloc (Nat.le_refl _) (.cells #[.bool false, .slice none 0 0] 60))).below hb1).below hb2).below hb3).below hb4).below ((Below.refl _ _).alloc (Nat.le_refl _) (.cells #[.bool s_x9, .slice A_x9 n_x9 c_x9] 60))).below hb5) HA.out).mono ?_
  rintro e wy ⟨z, hz, A_sm, n_sm, c_sm, s_sm, rfl, hs_sm, o_sm, hby, l_sm⟩
  obtain ⟨k, hk1, hk2⟩ := ext_law HB0.out hz
  have HOK := Lib.hid (extok_of HB0.out hk1 hk2)
  have HK : Hid (sg false (Nat.gcd a b) - sg false (z % ((b / Nat.gcd a b : Nat) : Int)).toNat * sg false a = k * sg false b) := hk1
  clear hz hk1 hk2
  go_wp2_with fail
  refine (mod5_any (o_sm.num l_sm) (((((o_part.num l_part).below hb4).below ((Below.refl _ _).alloc (Nat.le_refl _) (.cells #[.bool s_x9, .slice A_x9 n_x9 c_x9] 60))).below hb5).below hby) (sg_of hs_sm.out) HPP.out (by omega) (by omega) (by omega) (by omega)).mono ?_
  rintro e w6 ⟨A_md, n_md, c_md, rfl, o_md, hb6, l_md⟩
  generalize (z % ((b / Nat.gcd a b : Nat) : Int)).toNat = M at *
  have HX0 : Hid (w.heap.size + 1 < Array.size (World.heap (w6))) := (((((((((Cel.box (i := 1) (v := .slice none 0 0) (t := 60) (b := w.heap.size + 1) (World.alloc w (.cells #[.bool false, .slice none 0 0] 60)) #[.bool false, .slice none 0 0] rfl (by simp)).below hb1).below hb2).below hb3).below hb4).below ((Below.refl _ _).alloc (Nat.le_refl _) (.cells #[.bool s_x9, .slice A_x9 n_x9 c_x9] 60))).below hb5).below hby).below hb6).2.2
  have HXB := Lib.hid ((((Cel.box (i := 0) (v := .bool s_x9) (t := 60) (b := w4.heap.size) w4 #[.bool s_x9, .slice A_x9 n_x9 c_x9] rfl (by simp)).below hb5).below hby).below hb6)
  go_wp2_with fail
  refine (I5_any (s := false) (o_md.num l_md) (by omega)).mono ?_
  rintro e w7 ⟨A_x, n_x, c_x, s_x, rfl, hs_x, o_x, hb7, l_x⟩
  obtain rfl : s_x = false := hs_x.out.trans (by rw [sg_false]; simp)
  have HSX := Lib.hid (sg_of hs_x.out)
  have c1 := (((((Cel.box (i := 0) (v := .bool s_x9) (t := 60) (b := w4.heap.size) w4 #[.bool s_x9, .slice A_x9 n_x9 c_x9] rfl (by simp)).below hb5).below hby).below hb6).below hb7)
  have c2 := (((((Cel.box (i := 1) (v := .slice A_x9 n_x9 c_x9) (t := 60) (b := w4.heap.size) w4 #[.bool s_x9, .slice A_x9 n_x9 c_x9] rfl (by simp)).below hb5).below hby).below hb6).below hb7)
  have HT0 := Lib.hid (((((Cel.box (i := 0) (v := .bool s_x9) (t := 60) (b := w4.heap.size) w4 #[.bool s_x9, .slice A_x9 n_x9 c_x9] rfl (by simp)).below hb5).below hby).below hb6).below hb7)
  have HT1 := Lib.hid (((((Cel.box (i := 1) (v := .slice A_x9 n_x9 c_x9) (t := 60) (b := w4.heap.size) w4 #[.bool s_x9, .slice A_x9 n_x9 c_x9] rfl (by simp)).below hb5).below hby).below hb6).below hb7)
  obtain ⟨c1a, c1b, c1c⟩ := c1
  obtain ⟨c2a, c2b, c2c⟩ := c2
  have HRB := Lib.hid (bt (bt (bt (bt ((Below.refl _ _).alloc (Nat.le_refl _) (.cells #[.bool s_x9, .slice A_x9 n_x9 c_x9] 60)) hb5) hby) hb6) hb7)
  have HRX := Lib.hid o_x
  go_wp2_with fail
  obtain ⟨wq, hwq⟩ : ∃ wq : World, wq = ((w7).setCell ⟨(w4).heap.size, 0, none⟩ (.bool false)).setCell ⟨(w4).heap.size, 1, none⟩ (.slice A_x n_x c_x) := ⟨_, rfl⟩
  rw [← hwq]
  have HQ : Hid (Below (w4).heap.size (w4) wq ∧ At wq ⟨(w4).heap.size, 0, none⟩ (.bool false) ∧ At wq ⟨(w4).heap.size, 1, none⟩ (.slice A_x n_x c_x) ∧ Own .u64 41 (Array.size (World.heap (w6))) wq A_x n_x c_x (dg W (sg false M).natAbs)) := by
    rw [hwq]
    exact ⟨(HRB.out.setCell (p := ⟨_, 0, none⟩) (Nat.le_refl _) _).setCell (p := ⟨_, 1, none⟩) (Nat.le_refl _) _, Cel.at (HT0.out.put.set (by simp)), Cel.at ((HT1.out.set (by simp)).put), HRX.out.cells2 HXB.out.2.2⟩
  clear c1a c1b c1c c2a c2b c2c HRB HRX HT0 HT1 hwq o_x o_md
  have HWT : Hid (w.heap.size + 1 < Array.size (World.heap (wq))) := ((((((Cel.box (i := 1) (v := .slice none 0 0) (t := 60) (b := w.heap.size + 1) (World.alloc w (.cells #[.bool false, .slice none 0 0] 60)) #[.bool false, .slice none 0 0] rfl (by simp)).below hb1).below hb2).below hb3).below hb4).below HQ.out.1).2.2
  go_wp2_with fail
  have e_x0 := HQ.out.2.1.1
  have g_x0 := At.growB HQ.out.2.1
  have e_x1 := HQ.out.2.2.1.1
  have g_x1 := At.growB HQ.out.2.2.1
  refine wp_region_fltR (KB (wq).heap.size) (KB.refl _) (KB.trans _) (KB.of_grow _) [(0, 0), (0, 2), (0, 3), (0, 7), (2, 10), (1, 1), (1, 4), (1, 5), (1, 6), (1, 8), (1, 9), (4, 10), (3, 11)] (by kernel_rfl) (by kernel_rfl) ?_
  repeat (refine flt_pas (by rfl) (fun K hK => ?_); go_simp; refine hK _ _ (fun w' hw' => (by first | (go_simp; done) | (go_simp; intro hh; cases hh))) ?_; clear hK K)
  refine flt_alloc ((World.drew wq).heap.size) 60 #[.bool false, .slice none 0 0] (by rfl) rfl (fun w1 => (by go_simp)) (Nat.le_refl _) ?_
  refine flt_call (by rfl) (fun w8 hw8 K hK => ?_); go_simp; refine hK _ _ ?_; clear hK K
  refine (I5_any (s := false) (((((((o_g.num l_g).below hb2).below hb3).below hb4).below HQ.out.1).below (below_drewN _ 1)).below hw8.below) (by omega)).mono ?_
  rintro e w9 ⟨A_i1, n_i1, c_i1, s_i1, rfl, hs_i1, o_i1, hb9, l_i1⟩
  refine ⟨_, rfl, Grow.of_below hb9, ?_⟩
  (refine flt_norm (fun K hK => ?_); go_simp; refine hK _ ?_; clear hK K)
  refine flt_call (by rfl) (fun w10 hw10 K hK => ?_); go_simp; refine hK _ _ ?_; clear hK K
  refine (I5_any (s := false) (((((((((((H.out.below ((Below.refl _ _).alloc (Nat.le_refl _) (.cells #[.bool false, .slice none 0 0] 60))).below ((Below.refl _ _).alloc (Nat.le_refl _) (.cells #[.bool false, .slice none 0 0] 60))).below hb1).below hb2).below hb3).below hb4).below HQ.out.1).below (below_drewN _ 1)).below hw8.below).below hb9).below hw10.below) (by omega)).mono ?_
  rintro e w11 ⟨A_i2, n_i2, c_i2, s_i2, rfl, hs_i2, o_i2, hb11, l_i2⟩
  refine ⟨_, rfl, Grow.of_below hb11, ?_⟩
  (refine flt_norm (fun K hK => ?_); go_simp; refine hK _ ?_; clear hK K)
  refine flt_call (by rfl) (fun w12 hw12 K hK => ?_); go_simp; refine hK _ _ ?_; clear hK K
  refine (mul5_any ((((((((HQ.out.2.2.2).num l_x).below (below_drewN _ 1)).below hw8.below).below hb9).below hw10.below).below hb11).below hw12.below) ((o_i2.num l_i2).below hw12.below) HSX.out (sg_of hs_i2.out) (by omega) (by omega)).mono ?_
  rintro e w13 ⟨A_m1, n_m1, c_m1, s_m1, rfl, hs_m1, o_m1, hb13, l_m1⟩
  refine ⟨_, rfl, Grow.of_below hb13, ?_⟩
  (refine flt_norm (fun K hK => ?_); go_simp; refine hK _ ?_; clear hK K)
  refine flt_call (by rfl) (fun w14 hw14 K hK => ?_); go_simp; refine hK _ _ ?_; clear hK K
  refine (sub5_any ((((((o_i1.num l_i1).below hw10.below).below hb11).below hw12.below).below hb13).below hw14.below) ((o_m1.num l_m1).below hw14.below) (sg_of hs_i1.out) (sg_of hs_m1.out) (by omega) (by omega) (by omega) (by omega)).mono ?_
  rintro e w15 ⟨A_d1, n_d1, c_d1, s_d1, rfl, hs_d1, o_d1, hb15, l_d1⟩
  refine ⟨_, rfl, Grow.of_below hb15, ?_⟩
  (refine flt_norm (fun K hK => ?_); go_simp; refine hK _ ?_; clear hK K)
  refine flt_call (by rfl) (fun w16 hw16 K hK => ?_); go_simp; refine hK _ _ ?_; clear hK K
  refine (I5_any (s := false) (((((((((((((((((H'.out.below ((Below.refl _ _).alloc (Nat.le_refl _) (.cells #[.bool false, .slice none 0 0] 60))).below ((Below.refl _ _).alloc (Nat.le_refl _) (.cells #[.bool false, .slice none 0 0] 60))).below hb1).below hb2).below hb3).below hb4).below HQ.out.1).below (below_drewN _ 1)).below hw8.below).below hb9).below hw10.below).below hb11).below hw12.below).below hb13).below hw14.below).below hb15).below hw16.below) (by omega)).mono ?_
  rintro e w17 ⟨A_i3, n_i3, c_i3, s_i3, rfl, hs_i3, o_i3, hb17, l_i3⟩
  refine ⟨_, rfl, Grow.of_below hb17, ?_⟩
  (refine flt_norm (fun K hK => ?_); go_simp; refine hK _ ?_; clear hK K)
  refine flt_call (by rfl) (fun w18 hw18 K hK => ?_); go_simp; refine hK _ _ ?_; clear hK K
  refine (exact5_any ((((o_d1.num l_d1).below hw16.below).below hb17).below hw18.below) ((o_i3.num l_i3).below hw18.below) (k := k) (by rw [(sg_of hs_d1.out), (sg_of hs_i3.out)]; exact HK.out) (by rw [sg_false]; exact HB0.out) (by omega) (by omega) (by omega) (by omega)).mono ?_
  rintro e w19 ⟨A_y, n_y, c_y, s_y, rfl, hs_y, o_y, hb19, l_y⟩
  refine ⟨_, rfl, Grow.of_below hb19, ?_⟩
  (refine flt_norm (fun K hK => ?_); go_simp; refine hK _ ?_; clear hK K)
  refine flt_land (by rfl) (fun v_zb w20 hw20 hF => ?_)
  obtain ⟨b_zb, rfl, hB_zb, hc_zb⟩ := hF
  (refine flt_norm (fun K hK => ?_); go_simp; refine hK _ ?_; clear hK K)
  obtain ⟨cz1, cz2, cz3⟩ := cel_of hc_zb (j := 0) rfl
  obtain ⟨cz4, cz5, cz6⟩ := cel_of hc_zb (j := 1) rfl
  (refine flt_actX (by rfl) (fun K hK => ?_); go_simp)
  refine hK _ _ ⟨KB.set2 hB_zb, ?_⟩
  clear hK K
  repeat (refine flt_pas (by rfl) (fun K hK => ?_); go_simp; refine hK _ _ (fun w' hw' => (by first | (go_simp; done) | (go_simp; intro hh; cases hh))) ?_; clear hK K)
  refine flt_nil ?_
  clear g_x0 e_x0 g_x1 e_x1
  have HKX : Hid ((∃ B, w.heap.size + 1 < B ∧ Own .u64 41 B (w20) A_y n_y c_y (dg W k.natAbs)) ∧ Below ((World.drew wq)).heap.size ((World.drew wq)) (w20)) := ⟨⟨_, Nat.lt_of_lt_of_le HWT.out (bt (bt (bt (bt (bt (bt (bt (bt (bt (bt hw8.below hb9) hw10.below) hb11) hw12.below) hb13) hw14.below) hb15) hw16.below) hb17) hw18.below).size, (o_y.below hw20.below)⟩, (bt (bt (bt (bt (bt (bt (bt (bt (bt (bt (bt (bt hw8.below hb9) hw10.below) hb11) hw12.below) hb13) hw14.below) hb15) hw16.below) hb17) hw18.below) hb19) hw20.below)⟩
  obtain ⟨wz, hwz⟩ : ∃ wz : World, wz = ((w20).setCell ⟨b_zb, 0, none⟩ (.bool s_y)).setCell ⟨b_zb, 1, none⟩ (.slice A_y n_y c_y) := ⟨_, rfl⟩
  rw [← hwz]
  have HZ : Hid (Below ((World.drew wq)).heap.size ((World.drew wq)) wz ∧ At wz ⟨b_zb, 0, none⟩ (.bool s_y) ∧ At wz ⟨b_zb, 1, none⟩ (.slice A_y n_y c_y) ∧ ∃ B, w.heap.size + 1 < B ∧ Own .u64 41 B wz A_y n_y c_y (dg W k.natAbs)) := by
    rw [hwz]
    refine ⟨((HKX.out.2).setCell (p := ⟨b_zb, 0, none⟩) hB_zb _).setCell (p := ⟨b_zb, 1, none⟩) hB_zb _, Cel.at ((Cel.put ⟨cz1, cz2, cz3⟩).set (by simp)), Cel.at ((Cel.set ⟨cz4, cz5, cz6⟩ (by simp)).put), ?_⟩
    have hb : BoxT 60 b_zb _ := ⟨_, _, hc_zb⟩
    obtain ⟨B, hB, ho⟩ := HKX.out.1
    exact ⟨B, hB, (ho.set_ty (p := ⟨b_zb, 0, none⟩) hb (by decide)).set_ty (p := ⟨b_zb, 1, none⟩) hb.set (by decide)⟩
  clear HKX
  clear cz1 cz2 cz3 cz4 cz5 cz6 hwz hc_zb o_i1 o_m1 o_i2 o_d1 o_i3 o_y
  have hzb : w.heap.size + 1 < b_zb := Nat.lt_of_lt_of_le HWT.out hB_zb
  have c1 := (((((((((Cel.box (i := 0) (v := .bool false) (t := 60) (b := w.heap.size) w #[.bool false, .slice none 0 0] rfl (by simp)).below ((Below.refl _ _).alloc (Nat.le_refl _) (.cells #[.bool false, .slice none 0 0] 60))).below hb1).below hb2).below hb3).below hb4).below HQ.out.1).below (below_drewN _ 1)).below HZ.out.1)
  have c2 := (((((((((Cel.box (i := 1) (v := .slice none 0 0) (t := 60) (b := w.heap.size) w #[.bool false, .slice none 0 0] rfl (by simp)).below ((Below.refl _ _).alloc (Nat.le_refl _) (.cells #[.bool false, .slice none 0 0] 60))).below hb1).below hb2).below hb3).below hb4).below HQ.out.1).below (below_drewN _ 1)).below HZ.out.1)
  have c3 := ((((((((Cel.box (i := 0) (v := .bool false) (t := 60) (b := w.heap.size + 1) (World.alloc w (.cells #[.bool false, .slice none 0 0] 60)) #[.bool false, .slice none 0 0] rfl (by simp)).below hb1).below hb2).below hb3).below hb4).below HQ.out.1).below (below_drewN _ 1)).below HZ.out.1)
  have c4 := ((((((((Cel.box (i := 1) (v := .slice none 0 0) (t := 60) (b := w.heap.size + 1) (World.alloc w (.cells #[.bool false, .slice none 0 0] 60)) #[.bool false, .slice none 0 0] rfl (by simp)).below hb1).below hb2).below hb3).below hb4).below HQ.out.1).below (below_drewN _ 1)).below HZ.out.1)
  obtain ⟨c1a, c1b, c1c⟩ := c1
  obtain ⟨c2a, c2b, c2c⟩ := c2
  obtain ⟨c3a, c3b, c3c⟩ := c3
  obtain ⟨c4a, c4b, c4c⟩ := c4
  go_wp2_with fail
  have e_x0 := ((HQ.out.2.1.below (below_drewN _ 1)).below HZ.out.1).1
  have g_x0 := At.growE (b1 := w.heap.size) (b2 := (w.heap.size + 1)) ((HQ.out.2.1.below (below_drewN _ 1)).below HZ.out.1) (by simp <;> omega) (by simp <;> omega)
  have e_x1 := ((HQ.out.2.2.1.below (below_drewN _ 1)).below HZ.out.1).1
  have g_x1 := At.growE (b1 := w.heap.size) (b2 := (w.heap.size + 1)) ((HQ.out.2.2.1.below (below_drewN _ 1)).below HZ.out.1) (by simp <;> omega) (by simp <;> omega)
  have e_z0 := HZ.out.2.1.1
  have g_z0 := At.growE (b1 := w.heap.size) (b2 := (w.heap.size + 1)) HZ.out.2.1 (by simp <;> omega) (by simp <;> omega)
  have e_z1 := HZ.out.2.2.1.1
  have g_z1 := At.growE (b1 := w.heap.size) (b2 := (w.heap.size + 1)) HZ.out.2.2.1 (by simp <;> omega) (by simp <;> omega)
  refine wp_region_fltR (KE w.heap.size (w.heap.size + 1)) (KE.refl _ _) (KE.trans _ _) (KE.of_grow _ _) [(0, 0), (0, 1), (0, 2), (0, 3), (3, 4), (3, 5)] (by kernel_rfl) (by kernel_rfl) ?_
  repeat (refine flt_pasE (by rfl) (fun K hK => ?_); go_simp; refine hK _ _ (fun w' hw' => (by first | (go_simp; done) | (go_simp; intro hh; cases hh))) ?_; clear hK K)
  (refine flt_actX (by rfl) (fun K hK => ?_); go_simp)
  refine hK _ _ ⟨KE.set2 (.inl rfl), ?_⟩
  clear hK K
  (refine flt_norm (fun K hK => ?_); go_simp; refine hK _ ?_; clear hK K)
  (refine flt_actX (by rfl) (fun K hK => ?_); go_simp)
  refine hK _ _ ⟨KE.set2 (.inr rfl), ?_⟩
  clear hK K
  refine flt_nil ?_
  have HOG := Lib.hid (((((((o_g.below hb2).below hb3).below hb4).below HQ.out.1).below (below_drewN _ 1)).below HZ.out.1).below (below_drewN _ 1))
  have HOX := Lib.hid (((HQ.out.2.2.2.below (below_drewN _ 1)).below HZ.out.1).below (below_drewN _ 1))
  have HBB := Lib.hid (bt (bt (bt (bt (bt (bt (bt (bt (bt ((Below.refl _ _).alloc (Nat.le_refl _) (.cells #[.bool false, .slice none 0 0] 60)) ((Below.refl _ _).alloc (Nat.le_refl _) (.cells #[.bool false, .slice none 0 0] 60))) hb1) hb2) hb3) hb4) HQ.out.1) (below_drewN _ 1)) HZ.out.1) (below_drewN _ 1))
  go_wp2
  refine bodyPost_ret (v := .tuple #[.slice A_g n_g c_g, .agg #[.bool false, .slice A_x n_x c_x], .agg #[.bool s_y, .slice A_y n_y c_y]]) (by simp [results, Tryz.results40, go_sem, c1a, c2a, c3a, c4a]) rfl ?_
  obtain ⟨B, hB, hoy⟩ := HZ.out.2.2.2
  refine ⟨M, k.natAbs, s_y, _, _, _, _, _, _, _, _, _, by rw [hs_y.out]; exact HOK.out, rfl, ⟨(HOG.out.set4 HG0.out).mono (by have := HG0.out; omega), (HOX.out.set4 HX0.out).mono (by have := HX0.out; omega), ((show Own _ _ _ (World.drew wz) _ _ _ _ from hoy).set4 hB).mono (by omega)⟩, (((HBB.out.setCell (p := ⟨w.heap.size, 0, none⟩) (Nat.le_refl _) _).setCell (p := ⟨w.heap.size, 1, none⟩) (Nat.le_refl _) _).setCell (p := ⟨w.heap.size + 1, 0, none⟩) (by simp) _).setCell (p := ⟨w.heap.size + 1, 1, none⟩) (by simp) _, by omega, by omega, by omega⟩
theorem extended5_any {v u : Value} {a b K : Nat} {w : World} (h : Num w v a K) (h' : Num w u b K) (hK1 : 1 ≤ K) (hK : K ≤ 1000000) :
    Calls Tryz.prog 40 #[v, u] w (GExt w a b (2 * K + 1)) := by
  rcases Nat.eq_zero_or_pos b with hb | hb
  · rcases Nat.eq_zero_or_pos a with ha | ha
    · exact extended5_00 h h' ha hb hK1 hK
    · exact extended5_a0 h h' ha hb hK1 hK
  · rcases Nat.eq_zero_or_pos a with ha | ha
    · exact extended5_0b h h' ha hb hK1 hK
    · exact extended5_ab h h' ha hb hK1 hK
end Go.Proofs.YtamfhmmcnlollaaGreat
