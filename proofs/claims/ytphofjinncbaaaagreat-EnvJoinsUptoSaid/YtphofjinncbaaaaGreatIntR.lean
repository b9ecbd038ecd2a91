/-
  The document's tools of arithmetic (surdref05): Zero, Bits. Integers: sign and size. What a call gives that answers an integer in its own form. The document's tools (surdref05): Cmp, Minus, I, Z, Neg, Add, Sub, Mul, Exact, SameInt. The document's divisors (surdref05): Gcd, All, Lcm, AllLcm, Coprime; gcd.AllLcm. The n-th root, rounded down, in plain Lean. Walks: gcd.two, power, Root, Sqrt.
-/
import Derived.Test.YtphofjinncbaaaaGreatRef5X
import Derived.Test.YtphofjinncbaaaaGreatDigQ
import Derived.Test.YtphofjinncbaaaaGreatGcd
import Derived.Test.YtphofjinncbaaaaGreatGcdD
import Derived.Test.YtphofjinncbaaaaGreatPowX
import Derived.Test.YtphofjinncbaaaaGreatNatB
namespace Go.Proofs.YtphofjinncbaaaaGreat
open Go.RowKit
set_option linter.unusedVariables false

set_option maxHeartbeats 400000 in
theorem zero5_any {v : Value} {x L : Nat} {w : World} (h : Num w v x L) (hL : L ≤ 17179869184) : Calls Tryz.prog 112 #[v] w (Keeps (.bool (decide (x = 0))) w) := by
  have C := Lib.hid (digits5_any h (by omega))
  obtain ⟨_, _, _, _, rfl, _⟩ := id h
  clear h
  go_enter Tryz.func112, Tryz.ntmps112
  go_wp2_with fail
  refine C.out.mono ?_
  rintro e w1 ⟨A, n, c, rfl, ho, hb⟩
  have HB := Lib.hid hb
  have hq : ((n : Int) == 0) = decide (x = 0) := by
    have e1 : n = 0 ↔ x = 0 := by rw [← dg_nil_iff D_gt (x := x), ← List.length_eq_zero_iff, ho.len]
    by_cases h0 : x = 0
    · rw [decide_eq_true h0, beq_iff_eq]; have := e1.2 h0; omega
    · rw [decide_eq_false h0, beq_eq_false_iff_ne]
      intro h1
      exact h0 (e1.1 (by omega))
  generalize decide (x = 0) = bb at *
  clear ho hb
  go_wp2
  go_ret
  exact ⟨rfl, HB.out⟩
set_option maxHeartbeats 400000 in
theorem bits5_any {v : Value} {x L : Nat} {w : World} (h : Num w v x L) (hL : L ≤ 1073741824) : Calls Tryz.prog 123 #[v] w (Keeps (.int .i64 ((nb x : Nat) : Int)) w) := by
  obtain ⟨A, n, c, xs, rfl, h1, h2, rfl, h4⟩ := h
  have C := Lib.hid (rbits1_any h1 h2 (by omega))
  clear h1 h2
  go_enter Tryz.func123, Tryz.ntmps123
  go_wp2_with fail
  refine C.out.mono ?_
  rintro e w1 ⟨rfl, hb⟩
  go_wp2
  go_ret
  exact ⟨rfl, hb⟩
end Go.Proofs.YtphofjinncbaaaaGreat
namespace Go.Proofs.YtphofjinncbaaaaGreat
open Go.RowKit
set_option linter.unusedVariables false

/-- the integer of a sign and a size -/
def sg (s : Bool) (x : Nat) : Int := if s = true then -(x : Int) else (x : Int)
theorem sg_false (x : Nat) : sg false x = (x : Int) := rfl
theorem sg_true (x : Nat) : sg true x = -(x : Int) := rfl
theorem sg_of {s : Bool} {z : Int} (h : s = decide (z < 0)) : sg s z.natAbs = z := by
  subst h
  unfold sg
  split
  · rename_i h; have : z < 0 := by simpa using h
    omega
  · rename_i h; have : ¬ z < 0 := by simpa using h
    omega
theorem sg_abs (s : Bool) (x : Nat) : (sg s x).natAbs = x := by unfold sg; split <;> simp
theorem sg_neg (s : Bool) (x : Nat) : decide (sg s x < 0) = (s && decide (0 < x)) := by
  unfold sg
  cases s
  · simp
  · simp
theorem sg_not (s : Bool) (x : Nat) : sg (!s) x = -sg s x := by unfold sg; cases s <;> simp
/-- a new integer in its own form -/
def GI (w : World) (z : Int) (L : Nat) (e : Ending) (w' : World) : Prop :=
  ∃ A n c s, e = .returned (.agg #[.bool s, .slice A n c]) ∧ Hid (s = decide (z < 0)) ∧ Own .u64 81 w.heap.size w' A n c (dg W z.natAbs) ∧ Below w.heap.size w w' ∧ n ≤ L
theorem GI.eq {w w' : World} {z z' : Int} {L : Nat} {e : Ending} (h : GI w z L e w') (hz : z = z') : GI w z' L e w' := hz ▸ h
theorem GI.mono {w w' : World} {z : Int} {L L' : Nat} {e : Ending} (h : GI w z L e w') (hL : L ≤ L') : GI w z L' e w' := by
  obtain ⟨A, n, c, s, h1, h2, h3, h4, h5⟩ := h
  exact ⟨A, n, c, s, h1, h2, h3, h4, by omega⟩
theorem Own.cells2 {k : IntKind} {t : TypeId} {B n c b : Nat} {w : World} {A : Option Addr} {xs : List Nat} {u1 u2 : Value} (h : Own k t B w A n c xs) (hp : b < B) : Own k t B ((w.setCell ⟨b, 0, none⟩ u1).setCell ⟨b, 1, none⟩ u2) A n c xs :=
  (h.set_low (p := ⟨b, 0, none⟩) hp u1).set_low (p := ⟨b, 1, none⟩) hp u2
theorem below_cells2 {B b : Nat} {w w' : World} {u1 u2 : Value} (h : Below B w w') (hb : B ≤ b) : Below B w ((w'.setCell ⟨b, 0, none⟩ u1).setCell ⟨b, 1, none⟩ u2) :=
  (h.setCell (p := ⟨b, 0, none⟩) hb u1).setCell (p := ⟨b, 1, none⟩) hb u2
theorem At.growS {w : World} {p : Addr} {v : Value} {b : Nat} (h : At w p v) (hne : p.block ≠ b) : ∀ w', Grow (some b) w.drew w' → w'.cell? p = some v := fun w' g => g.cell (p := p) (v := v) h.1 (by simpa using hne)
/-- the end of a walk that answers one integer -/
theorem gi_fin {w wb w' : World} {z : Int} {L b n c : Nat} {s : Bool} {A : Option Addr} {u1 u2 : Value} (hs : s = decide (z < 0)) (ho : Own .u64 81 wb.heap.size w' A n c (dg W z.natAbs)) (hb : Below w.heap.size w w') (hwb : w.heap.size ≤ b ∧ b < wb.heap.size) (hl : n ≤ L) :
    GI w z L (.returned (.agg #[.bool s, .slice A n c])) ((w'.setCell ⟨b, 0, none⟩ u1).setCell ⟨b, 1, none⟩ u2) :=
  ⟨A, n, c, s, rfl, hs, (ho.cells2 hwb.2).mono (by omega), below_cells2 hb hwb.1, hl⟩

theorem At.boxc {i : Nat} {v : Value} {t : TypeId} {b : Nat} (w : World) (vs : Array Value) (h : vs[i]? = some v) (hb : b = w.heap.size) : At (w.alloc (.cells vs t)) ⟨b, i, none⟩ v := by
  subst hb; exact At.box w vs h
theorem same5q_any {A A2 : Option Addr} {n c m c2 : Nat} {xs ys : List Nat} {w : World} (h : Rd .u64 w A n c xs) (h' : Rd .u64 w A2 m c2 ys) (hn : n ≤ 1099511627776) :
    Calls Tryz.prog 42 #[.slice A n c, .slice A2 m c2] w (Quiet (.bool (decide (xs = ys))) w) := by
  have C := Lib.hid (same1_any h h' hn)
  clear h h'
  generalize decide (xs = ys) = bb at *
  go_enter Tryz.func42, Tryz.ntmps42
  go_wp2_with fail
  refine C.out.mono ?_
  rintro e w1 ⟨rfl, hb⟩
  go_wp2
  go_ret
  exact ⟨rfl, hb⟩
theorem same5k_any {A A2 : Option Addr} {n c m c2 : Nat} {xs ys : List Nat} {w : World} (h : Rd .u64 w A n c xs) (h' : Rd .u64 w A2 m c2 ys) (e : xs = ys) (hn : n ≤ 1099511627776) :
    Calls Tryz.prog 42 #[.slice A n c, .slice A2 m c2] w (Keeps (.bool true) w) :=
  (same5q_any h h' hn).mono fun _ _ ⟨he, q, hq⟩ => ⟨by rw [he, e]; simp, by rw [hq]; exact below_drewN _ _⟩

set_option maxHeartbeats 400000 in
theorem cmp5_any {v u : Value} {x y L M : Nat} {w : World} (h : Num w v x L) (h' : Num w u y M) (hL : L ≤ 17179869184) (hM : M ≤ 17179869184) : Calls Tryz.prog 124 #[v, u] w (Keeps (.int .i64 (cmpN x y)) w) := by
  have H := Lib.hid h
  have H' := Lib.hid h'
  have HX := Lib.hid h.lt
  have HY := Lib.hid h'.lt
  obtain ⟨_, _, _, _, rfl, _⟩ := id h
  obtain ⟨_, _, _, _, rfl, _⟩ := id h'
  clear h h'
  go_enter Tryz.func124, Tryz.ntmps124
  go_wp2_with fail
  refine (digits5_any H.out (by omega)).mono ?_
  rintro e w1 ⟨A_da, n_da, c_da, rfl, o_da, hb1⟩
  go_wp2_with fail
  refine (digits5_any (H'.out.below hb1) (by omega)).mono ?_
  rintro e w2 ⟨A_db, n_db, c_db, rfl, o_db, hb2⟩
  go_wp2_with fail
  refine (compare1_any ((o_da.below hb2).digs HX.out) ((o_db.mono hb1.size).digs HY.out) (by omega) (by omega)).mono ?_
  rintro e w' ⟨rfl, rfl⟩
  go_wp2
  go_ret
  exact ⟨rfl, (bt hb1 hb2)⟩
set_option maxHeartbeats 1000000 in
theorem minus5_any {v u : Value} {x y L M : Nat} {w : World} (h : Num w v x L) (h' : Num w u y M) (hle : y ≤ x) (hL1 : 1 ≤ L) (hL : L ≤ 17179869184) (hM : M ≤ 17179869184) :
    Calls Tryz.prog 120 #[v, u] w (GN w (x - y) L) := by
  have H := Lib.hid h
  have H' := Lib.hid h'
  have HLE := Lib.hid hle
  have C := Lib.hid (ones63_any h h' (by omega) (by omega))
  have HX := Lib.hid h.lt
  have HY := Lib.hid h'.lt
  obtain ⟨_, _, _, _, rfl, _⟩ := id h
  obtain ⟨_, _, _, _, rfl, _⟩ := id h'
  clear h h' hle
  go_enter Tryz.func120, Tryz.ntmps120
  go_wp2_with fail
  refine C.out.mono ?_
  rintro e wo ⟨p, q, t, rfl, ht, hbo⟩
  rcases t with _ | _
  · clear ht
    go_wp2_with fail
    refine (digits5_any (H.out.below hbo) (by omega)).mono ?_
    rintro e w1 ⟨A_da, n_da, c_da, rfl, o_da, hb1⟩
    go_wp2_with fail
    refine (digits5_any ((H'.out.below hbo).below hb1) (by omega)).mono ?_
    rintro e w2 ⟨A_db, n_db, c_db, rfl, o_db, hb2⟩
    have HDA := Lib.hid (((o_da.mono hbo.size).below hb2).digs HX.out)
    have HDB := Lib.hid ((o_db.mono (bt hbo hb1).size).digs HY.out)
    go_wp2_with fail
    refine (minus1_any HDA.out HDB.out (by omega) (by omega) HLE.out).mono ?_
    rintro e w3 ⟨A_s, n_s, c_s, xs_s, rfl, o_s, a_s, v_s, hb3, l_s⟩
    have V_s := Lib.hid v_s
    clear v_s
    go_wp2_with fail
    refine (number5_any (o_s.dig a_s V_s.out l_s) (by omega)).mono ?_
    rintro e w4 ⟨A_r, n_r, c_r, rfl, o_r, hb4, l_r⟩
    have HR : Hid (Own .u64 81 w.heap.size w4 A_r n_r c_r (dg W (x - y)) ∧ Below w.heap.size w w4 ∧ n_r ≤ L) := ⟨(o_r.mono (bt (bt (bt hbo hb1) hb2) hb3).size), (bt (bt (bt (bt hbo hb1) hb2) hb3) hb4), by omega⟩
    go_wp2
    go_ret
    exact ⟨_, _, _, rfl, HR.out⟩
  · obtain ⟨rfl, rfl, hx, hy⟩ := ht rfl
    have hle := HLE.out
    clear ht
    go_wp2_with fail
    refine (of5_any (x := p - q) (by first | omega | (rw [IntKind.wrap_u64]; omega)) (by rw [W_eq]; omega)).mono ?_
    rintro e w5 ⟨A_r, n_r, c_r, rfl, o_r, hb5, l_r⟩
    have HR : Hid (Own .u64 81 w.heap.size w5 A_r n_r c_r (dg W (p - q)) ∧ Below w.heap.size w w5 ∧ n_r ≤ L) := ⟨(o_r.mono hbo.size), (bt hbo hb5), by omega⟩
    go_wp2
    go_ret
    exact ⟨_, _, _, rfl, HR.out⟩

set_option maxHeartbeats 400000 in
theorem I5_pos {v : Value} {x L : Nat} {w : World} (h : Num w v x L) (hx : True) (hL : L ≤ 17179869184) : Calls Tryz.prog 106 #[.bool false, v] w (GI w (sg false x) L) := by
  have H := Lib.hid h
  have HXX := Lib.hid hx
  obtain ⟨_, _, _, _, rfl, _⟩ := id h
  clear h hx
  go_enter Tryz.func106, Tryz.ntmps106
  go_wp2_with fail
  refine (norm5_any (H.out.below ((Below.refl _ _).alloc (Nat.le_refl _) (.cells #[.bool false, .slice none 0 0] 60))) (by omega)).mono ?_
  rintro e w1 ⟨A_r, n_r, c_r, rfl, o_r, hb1, l_r⟩
  skip
  have hr := o_r
  rw [← sg_abs false x] at hr
  have HR := Lib.hid hr
  clear hr
  have HB := Lib.hid (bt ((Below.refl _ _).alloc (Nat.le_refl _) (.cells #[.bool false, .slice none 0 0] 60)) hb1)
  have c1 := ((Cel.box (i := 0) (v := .bool false) (t := 60) (b := w.heap.size) w #[.bool false, .slice none 0 0] rfl (by simp)).below hb1)
  have c2 := ((Cel.box (i := 1) (v := .slice none 0 0) (t := 60) (b := w.heap.size) w #[.bool false, .slice none 0 0] rfl (by simp)).below hb1)
  obtain ⟨c1a, c1b, c1c⟩ := c1
  obtain ⟨c2a, c2b, c2c⟩ := c2
  go_wp2
  refine bodyPost_ret (v := .agg #[.bool false, .slice A_r n_r c_r]) (by simp [results, Tryz.results106, go_sem, c1a, c2a]) rfl ?_
  exact gi_fin (by rw [sg_neg]; rfl) HR.out HB.out (by simp) (by omega)
set_option maxHeartbeats 400000 in
theorem I5_zero {v : Value} {x L : Nat} {w : World} (h : Num w v x L) (hx : x = 0) (hL : L ≤ 17179869184) : Calls Tryz.prog 106 #[.bool true, v] w (GI w (sg true x) L) := by
  have H := Lib.hid h
  have HXX := Lib.hid hx
  obtain ⟨_, _, _, _, rfl, _⟩ := id h
  clear h hx
  go_enter Tryz.func106, Tryz.ntmps106
  go_wp2_with fail
  refine (norm5_any (H.out.below ((Below.refl _ _).alloc (Nat.le_refl _) (.cells #[.bool false, .slice none 0 0] 60))) (by omega)).mono ?_
  rintro e w1 ⟨A_r, n_r, c_r, rfl, o_r, hb1, l_r⟩
  (obtain rfl := len_zero o_r HXX.out)
  have hr := o_r
  rw [← sg_abs true x] at hr
  have HR := Lib.hid hr
  clear hr
  have HB := Lib.hid (bt ((Below.refl _ _).alloc (Nat.le_refl _) (.cells #[.bool false, .slice none 0 0] 60)) hb1)
  have c1 := ((Cel.box (i := 0) (v := .bool false) (t := 60) (b := w.heap.size) w #[.bool false, .slice none 0 0] rfl (by simp)).below hb1)
  have c2 := ((Cel.box (i := 1) (v := .slice none 0 0) (t := 60) (b := w.heap.size) w #[.bool false, .slice none 0 0] rfl (by simp)).below hb1)
  obtain ⟨c1a, c1b, c1c⟩ := c1
  obtain ⟨c2a, c2b, c2c⟩ := c2
  go_wp2
  refine bodyPost_ret (v := .agg #[.bool false, .slice A_r 0 c_r]) (by simp [results, Tryz.results106, go_sem, c1a, c2a]) rfl ?_
  exact gi_fin (by rw [sg_neg]; (rw [HXX.out]; rfl)) HR.out HB.out (by simp) (by omega)
set_option maxHeartbeats 400000 in
theorem I5_neg {v : Value} {x L : Nat} {w : World} (h : Num w v x L) (hx : 0 < x) (hL : L ≤ 17179869184) : Calls Tryz.prog 106 #[.bool true, v] w (GI w (sg true x) L) := by
  have H := Lib.hid h
  have HXX := Lib.hid hx
  obtain ⟨_, _, _, _, rfl, _⟩ := id h
  clear h hx
  go_enter Tryz.func106, Tryz.ntmps106
  go_wp2_with fail
  refine (norm5_any (H.out.below ((Below.refl _ _).alloc (Nat.le_refl _) (.cells #[.bool false, .slice none 0 0] 60))) (by omega)).mono ?_
  rintro e w1 ⟨A_r, n_r, c_r, rfl, o_r, hb1, l_r⟩
  (have z1 := len_pos o_r HXX.out)
  have hr := o_r
  rw [← sg_abs true x] at hr
  have HR := Lib.hid hr
  clear hr
  have HB := Lib.hid (bt ((Below.refl _ _).alloc (Nat.le_refl _) (.cells #[.bool false, .slice none 0 0] 60)) hb1)
  have c1 := ((Cel.box (i := 0) (v := .bool false) (t := 60) (b := w.heap.size) w #[.bool false, .slice none 0 0] rfl (by simp)).below hb1)
  have c2 := ((Cel.box (i := 1) (v := .slice none 0 0) (t := 60) (b := w.heap.size) w #[.bool false, .slice none 0 0] rfl (by simp)).below hb1)
  obtain ⟨c1a, c1b, c1c⟩ := c1
  obtain ⟨c2a, c2b, c2c⟩ := c2
  go_wp2
  refine bodyPost_ret (v := .agg #[.bool true, .slice A_r n_r c_r]) (by simp [results, Tryz.results106, go_sem, c1a, c2a]) rfl ?_
  exact gi_fin (by rw [sg_neg]; (rw [decide_eq_true HXX.out]; rfl)) HR.out HB.out (by simp) (by omega)
theorem I5_any {v : Value} {x L : Nat} {s : Bool} {w : World} (h : Num w v x L) (hL : L ≤ 17179869184) : Calls Tryz.prog 106 #[.bool s, v] w (GI w (sg s x) L) := by
  cases s
  · exact I5_pos h trivial hL
  · rcases Nat.eq_zero_or_pos x with hx | hx
    · exact I5_zero h hx hL
    · exact I5_neg h hx hL

theorem sg_mul (s t : Bool) (x y : Nat) : sg (s != t) (x * y) = sg s x * sg t y := by
  unfold sg
  cases s <;> cases t <;> simp [Int.neg_mul, Int.mul_neg]
theorem sg_same (s : Bool) (x y : Nat) : sg s (x + y) = sg s x + sg s y := by
  unfold sg
  cases s <;> simp [Int.neg_add]
theorem sg_diff {s t : Bool} (h : s ≠ t) {x y : Nat} (hle : y ≤ x) : sg s (x - y) = sg s x + sg t y := by
  unfold sg
  cases s <;> cases t <;> simp at h ⊢ <;> omega
set_option maxHeartbeats 400000 in
theorem sameInt_yes {A A2 : Option Addr} {n c m c2 : Nat} {xs ys : List Nat} {s t : Bool} {w : World} (h : Rd .u64 w A n c xs) (h' : Rd .u64 w A2 m c2 ys) (hst : s = t) (e : xs = ys) (hn : n ≤ 1099511627776) :
    Calls Tryz.prog 63 #[.agg #[.bool s, .slice A n c], .agg #[.bool t, .slice A2 m c2]] w (Keeps (.bool true) w) := by
  subst hst
  have H := Lib.hid h
  have H' := Lib.hid h'
  have HE := Lib.hid e
  clear h h' e
  have q0 : (s == s) = true := by simp
  go_enter Tryz.func63, Tryz.ntmps63
  have e0 := ((At.boxc (i := 0) (v := .bool s) (t := 60) (b := w.heap.size) w #[.bool s, .slice A n c] rfl (by simp)).below ((Below.refl _ _).alloc (Nat.le_refl _) (.cells #[.bool s, .slice A2 m c2] 60))).1
  have e1 := ((At.boxc (i := 1) (v := .slice A n c) (t := 60) (b := w.heap.size) w #[.bool s, .slice A n c] rfl (by simp)).below ((Below.refl _ _).alloc (Nat.le_refl _) (.cells #[.bool s, .slice A2 m c2] 60))).1
  have e2 := (At.boxc (i := 0) (v := .bool s) (t := 60) (b := w.heap.size + 1) (World.alloc w (.cells #[.bool s, .slice A n c] 60)) #[.bool s, .slice A2 m c2] rfl (by simp)).1
  have e3 := (At.boxc (i := 1) (v := .slice A2 m c2) (t := 60) (b := w.heap.size + 1) (World.alloc w (.cells #[.bool s, .slice A n c] 60)) #[.bool s, .slice A2 m c2] rfl (by simp)).1
  go_wp2_with fail
  refine (same5k_any ((H.out.below ((Below.refl _ _).alloc (Nat.le_refl _) (.cells #[.bool s, .slice A n c] 60))).below ((Below.refl _ _).alloc (Nat.le_refl _) (.cells #[.bool s, .slice A2 m c2] 60))) ((H'.out.below ((Below.refl _ _).alloc (Nat.le_refl _) (.cells #[.bool s, .slice A n c] 60))).below ((Below.refl _ _).alloc (Nat.le_refl _) (.cells #[.bool s, .slice A2 m c2] 60))) HE.out hn).mono ?_
  rintro e w1 ⟨rfl, hb1⟩
  go_wp2
  go_ret
  exact ⟨rfl, (bt (bt ((Below.refl _ _).alloc (Nat.le_refl _) (.cells #[.bool s, .slice A n c] 60)) ((Below.refl _ _).alloc (Nat.le_refl _) (.cells #[.bool s, .slice A2 m c2] 60))) hb1)⟩
set_option maxHeartbeats 1000000 in
theorem mul5_any {A A' : Option Addr} {n c m d x y L M : Nat} {s t : Bool} {z1 z2 : Int} {w : World} (h : Num w (.slice A n c) x L) (h' : Num w (.slice A' m d) y M) (hz1 : sg s x = z1) (hz2 : sg t y = z2) (hL : L ≤ 8589934592) (hM : M ≤ 8589934592) :
    Calls Tryz.prog 118 #[.agg #[.bool s, .slice A n c], .agg #[.bool t, .slice A' m d]] w (GI w (z1 * z2) (max 1 (L + M))) := by
  subst hz1 hz2
  have H := Lib.hid h
  have H' := Lib.hid h'
  clear h h'
  go_enter Tryz.func118, Tryz.ntmps118
  go_wp2_with fail
  have e_f0 := (((At.boxc (i := 0) (v := .bool s) (t := 60) (b := w.heap.size) w #[.bool s, .slice A n c] rfl (by simp)).below ((Below.refl _ _).alloc (Nat.le_refl _) (.cells #[.bool t, .slice A' m d] 60))).below ((Below.refl _ _).alloc (Nat.le_refl _) (.cells #[.bool false, .slice none 0 0] 60))).1
  have g_f0 := At.growS (b := (w.heap.size + 1 + 1)) (((At.boxc (i := 0) (v := .bool s) (t := 60) (b := w.heap.size) w #[.bool s, .slice A n c] rfl (by simp)).below ((Below.refl _ _).alloc (Nat.le_refl _) (.cells #[.bool t, .slice A' m d] 60))).below ((Below.refl _ _).alloc (Nat.le_refl _) (.cells #[.bool false, .slice none 0 0] 60))) (by simp <;> omega)
  have e_g0 := ((At.boxc (i := 0) (v := .bool t) (t := 60) (b := w.heap.size + 1) (World.alloc w (.cells #[.bool s, .slice A n c] 60)) #[.bool t, .slice A' m d] rfl (by simp)).below ((Below.refl _ _).alloc (Nat.le_refl _) (.cells #[.bool false, .slice none 0 0] 60))).1
  have g_g0 := At.growS (b := (w.heap.size + 1 + 1)) ((At.boxc (i := 0) (v := .bool t) (t := 60) (b := w.heap.size + 1) (World.alloc w (.cells #[.bool s, .slice A n c] 60)) #[.bool t, .slice A' m d] rfl (by simp)).below ((Below.refl _ _).alloc (Nat.le_refl _) (.cells #[.bool false, .slice none 0 0] 60))) (by simp <;> omega)
  have e_f1 := (((At.boxc (i := 1) (v := .slice A n c) (t := 60) (b := w.heap.size) w #[.bool s, .slice A n c] rfl (by simp)).below ((Below.refl _ _).alloc (Nat.le_refl _) (.cells #[.bool t, .slice A' m d] 60))).below ((Below.refl _ _).alloc (Nat.le_refl _) (.cells #[.bool false, .slice none 0 0] 60))).1
  have g_f1 := At.growS (b := (w.heap.size + 1 + 1)) (((At.boxc (i := 1) (v := .slice A n c) (t := 60) (b := w.heap.size) w #[.bool s, .slice A n c] rfl (by simp)).below ((Below.refl _ _).alloc (Nat.le_refl _) (.cells #[.bool t, .slice A' m d] 60))).below ((Below.refl _ _).alloc (Nat.le_refl _) (.cells #[.bool false, .slice none 0 0] 60))) (by simp <;> omega)
  have e_g1 := ((At.boxc (i := 1) (v := .slice A' m d) (t := 60) (b := w.heap.size + 1) (World.alloc w (.cells #[.bool s, .slice A n c] 60)) #[.bool t, .slice A' m d] rfl (by simp)).below ((Below.refl _ _).alloc (Nat.le_refl _) (.cells #[.bool false, .slice none 0 0] 60))).1
  have g_g1 := At.growS (b := (w.heap.size + 1 + 1)) ((At.boxc (i := 1) (v := .slice A' m d) (t := 60) (b := w.heap.size + 1) (World.alloc w (.cells #[.bool s, .slice A n c] 60)) #[.bool t, .slice A' m d] rfl (by simp)).below ((Below.refl _ _).alloc (Nat.le_refl _) (.cells #[.bool false, .slice none 0 0] 60))) (by simp <;> omega)
  refine wp_region_grow (some (w.heap.size + 1 + 1)) [(true, 0), (true, 1), (true, 2), (true, 3), (true, 4), (true, 5), (true, 6), (true, 7), (true, 8), (false, 9), (false, 10), (false, 11)] (by kernel_rfl) (by kernel_rfl) ?_
  repeat (refine ord_pas (by rfl) (fun K hK => ?_); go_simp; refine hK _ _ (fun w' hw' => (by first | (go_simp; done) | (go_simp; intro hh; cases hh))) ?_; clear hK K)
  (refine ord_call (by rfl) (fun K hK => ?_); go_simp; refine hK _ _ ?_; clear hK K)
  refine (times5_any ((((H.out.below ((Below.refl _ _).alloc (Nat.le_refl _) (.cells #[.bool s, .slice A n c] 60))).below ((Below.refl _ _).alloc (Nat.le_refl _) (.cells #[.bool t, .slice A' m d] 60))).below ((Below.refl _ _).alloc (Nat.le_refl _) (.cells #[.bool false, .slice none 0 0] 60))).below (Below.refl _ _).drew) ((((H'.out.below ((Below.refl _ _).alloc (Nat.le_refl _) (.cells #[.bool s, .slice A n c] 60))).below ((Below.refl _ _).alloc (Nat.le_refl _) (.cells #[.bool t, .slice A' m d] 60))).below ((Below.refl _ _).alloc (Nat.le_refl _) (.cells #[.bool false, .slice none 0 0] 60))).below (Below.refl _ _).drew) (by omega) (by omega)).mono ?_
  rintro e w1 ⟨A_p, n_p, c_p, rfl, o_p, hb1, l_p⟩
  refine ⟨_, rfl, Grow.of_below hb1, ?_⟩
  (refine ord_norm (fun K hK => ?_); go_simp; refine hK _ ?_; clear hK K)
  (refine ord_call (by rfl) (fun K hK => ?_); go_simp; refine hK _ _ ?_; clear hK K)
  refine (I5_any (o_p.num l_p) (by omega)).mono ?_
  rintro e w2 ⟨A_r, n_r, c_r, s_r, rfl, hs_r, o_r, hb2, l_r⟩
  refine ⟨_, rfl, Grow.of_below hb2, ?_⟩
  (refine ord_norm (fun K hK => ?_); go_simp; refine hK _ ?_; clear hK K)
  have c1 := ((((Cel.box (i := 0) (v := .bool false) (t := 60) (b := w.heap.size + 1 + 1) (World.alloc (World.alloc w (.cells #[.bool s, .slice A n c] 60)) (.cells #[.bool t, .slice A' m d] 60)) #[.bool false, .slice none 0 0] rfl (by simp)).below (Below.refl _ _).drew).below hb1).below hb2)
  have c2 := ((((Cel.box (i := 1) (v := .slice none 0 0) (t := 60) (b := w.heap.size + 1 + 1) (World.alloc (World.alloc w (.cells #[.bool s, .slice A n c] 60)) (.cells #[.bool t, .slice A' m d] 60)) #[.bool false, .slice none 0 0] rfl (by simp)).below (Below.refl _ _).drew).below hb1).below hb2)
  obtain ⟨c1a, c1b, c1c⟩ := c1
  obtain ⟨c2a, c2b, c2c⟩ := c2
  (refine ord_act (by rfl) (fun K hK => ?_); go_simp)
  refine hK _ _ ⟨Grow.trans _ _ _ _ (Grow.set rfl _) (Grow.set rfl _), ?_⟩
  clear hK K
  refine ord_nil ?_
  have HO := Lib.hid o_r
  have HB := Lib.hid (bt (bt (bt (bt (bt ((Below.refl _ _).alloc (Nat.le_refl _) (.cells #[.bool s, .slice A n c] 60)) ((Below.refl _ _).alloc (Nat.le_refl _) (.cells #[.bool t, .slice A' m d] 60))) ((Below.refl _ _).alloc (Nat.le_refl _) (.cells #[.bool false, .slice none 0 0] 60))) (Below.refl _ _).drew) hb1) hb2)
  go_wp2
  refine bodyPost_ret (v := .agg #[.bool s_r, .slice A_r n_r c_r]) (by simp [results, Tryz.results118, go_sem, c1a, c2a]) rfl ?_
  refine GI.eq (gi_fin (wb := w1) hs_r HO.out HB.out ?_ (by omega)) (sg_mul s t x y)
  refine ⟨by omega, ?_⟩
  have := hb1.size
  simp at this
  omega
set_option maxHeartbeats 1000000 in
theorem add5_same {A A' : Option Addr} {n c m d x y L M : Nat} {s t : Bool} {w : World} (h : Num w (.slice A n c) x L) (h' : Num w (.slice A' m d) y M) (hst : s = t) (hL : L ≤ 8589934592) (hM : M ≤ 8589934592) :
    Calls Tryz.prog 119 #[.agg #[.bool s, .slice A n c], .agg #[.bool t, .slice A' m d]] w (GI w (sg s x + sg t y) (max L M + 1)) := by
  subst hst
  have q0 : (s == s) = true := by simp
  obtain ⟨t, ht⟩ : ∃ t, t = s := ⟨s, rfl⟩
  have H := Lib.hid h
  have H' := Lib.hid h'
  clear h h'
  go_enter Tryz.func119, Tryz.ntmps119
  have e0 := (((At.boxc (i := 0) (v := .bool s) (t := 60) (b := w.heap.size) w #[.bool s, .slice A n c] rfl (by simp)).below ((Below.refl _ _).alloc (Nat.le_refl _) (.cells #[.bool s, .slice A' m d] 60))).below ((Below.refl _ _).alloc (Nat.le_refl _) (.cells #[.bool false, .slice none 0 0] 60))).1
  have e1 := ((At.boxc (i := 0) (v := .bool s) (t := 60) (b := w.heap.size + 1) (World.alloc w (.cells #[.bool s, .slice A n c] 60)) #[.bool s, .slice A' m d] rfl (by simp)).below ((Below.refl _ _).alloc (Nat.le_refl _) (.cells #[.bool false, .slice none 0 0] 60))).1
  go_wp2_with fail
  clear e0 e1
  go_wp2_with fail
  have e_f0 := (((At.boxc (i := 0) (v := .bool s) (t := 60) (b := w.heap.size) w #[.bool s, .slice A n c] rfl (by simp)).below ((Below.refl _ _).alloc (Nat.le_refl _) (.cells #[.bool s, .slice A' m d] 60))).below ((Below.refl _ _).alloc (Nat.le_refl _) (.cells #[.bool false, .slice none 0 0] 60))).1
  have g_f0 := At.growS (b := (w.heap.size + 1 + 1)) (((At.boxc (i := 0) (v := .bool s) (t := 60) (b := w.heap.size) w #[.bool s, .slice A n c] rfl (by simp)).below ((Below.refl _ _).alloc (Nat.le_refl _) (.cells #[.bool s, .slice A' m d] 60))).below ((Below.refl _ _).alloc (Nat.le_refl _) (.cells #[.bool false, .slice none 0 0] 60))) (by simp <;> omega)
  have e_f1 := (((At.boxc (i := 1) (v := .slice A n c) (t := 60) (b := w.heap.size) w #[.bool s, .slice A n c] rfl (by simp)).below ((Below.refl _ _).alloc (Nat.le_refl _) (.cells #[.bool s, .slice A' m d] 60))).below ((Below.refl _ _).alloc (Nat.le_refl _) (.cells #[.bool false, .slice none 0 0] 60))).1
  have g_f1 := At.growS (b := (w.heap.size + 1 + 1)) (((At.boxc (i := 1) (v := .slice A n c) (t := 60) (b := w.heap.size) w #[.bool s, .slice A n c] rfl (by simp)).below ((Below.refl _ _).alloc (Nat.le_refl _) (.cells #[.bool s, .slice A' m d] 60))).below ((Below.refl _ _).alloc (Nat.le_refl _) (.cells #[.bool false, .slice none 0 0] 60))) (by simp <;> omega)
  have e_g1 := ((At.boxc (i := 1) (v := .slice A' m d) (t := 60) (b := w.heap.size + 1) (World.alloc w (.cells #[.bool s, .slice A n c] 60)) #[.bool s, .slice A' m d] rfl (by simp)).below ((Below.refl _ _).alloc (Nat.le_refl _) (.cells #[.bool false, .slice none 0 0] 60))).1
  have g_g1 := At.growS (b := (w.heap.size + 1 + 1)) ((At.boxc (i := 1) (v := .slice A' m d) (t := 60) (b := w.heap.size + 1) (World.alloc w (.cells #[.bool s, .slice A n c] 60)) #[.bool s, .slice A' m d] rfl (by simp)).below ((Below.refl _ _).alloc (Nat.le_refl _) (.cells #[.bool false, .slice none 0 0] 60))) (by simp <;> omega)
  refine wp_region_grow (some (w.heap.size + 1 + 1)) [(true, 0), (true, 1), (true, 2), (true, 3), (true, 4), (true, 5), (false, 6), (false, 7), (false, 8)] (by kernel_rfl) (by kernel_rfl) ?_
  repeat (refine ord_pas (by rfl) (fun K hK => ?_); go_simp; refine hK _ _ (fun w' hw' => (by first | (go_simp; done) | (go_simp; intro hh; cases hh))) ?_; clear hK K)
  (refine ord_call (by rfl) (fun K hK => ?_); go_simp; refine hK _ _ ?_; clear hK K)
  refine (plus5_any ((((H.out.below ((Below.refl _ _).alloc (Nat.le_refl _) (.cells #[.bool s, .slice A n c] 60))).below ((Below.refl _ _).alloc (Nat.le_refl _) (.cells #[.bool s, .slice A' m d] 60))).below ((Below.refl _ _).alloc (Nat.le_refl _) (.cells #[.bool false, .slice none 0 0] 60))).below (Below.refl _ _).drew) ((((H'.out.below ((Below.refl _ _).alloc (Nat.le_refl _) (.cells #[.bool s, .slice A n c] 60))).below ((Below.refl _ _).alloc (Nat.le_refl _) (.cells #[.bool s, .slice A' m d] 60))).below ((Below.refl _ _).alloc (Nat.le_refl _) (.cells #[.bool false, .slice none 0 0] 60))).below (Below.refl _ _).drew) (by omega) (by omega)).mono ?_
  rintro e w1 ⟨A_p, n_p, c_p, rfl, o_p, hb1, l_p⟩
  refine ⟨_, rfl, Grow.of_below hb1, ?_⟩
  (refine ord_norm (fun K hK => ?_); go_simp; refine hK _ ?_; clear hK K)
  have HBW := Lib.hid hb1
  (refine ord_call (by rfl) (fun K hK => ?_); go_simp; refine hK _ _ ?_; clear hK K)
  refine (I5_any (o_p.num l_p) (by omega)).mono ?_
  rintro e w2 ⟨A_r, n_r, c_r, s_r, rfl, hs_r, o_r, hb2, l_r⟩
  refine ⟨_, rfl, Grow.of_below hb2, ?_⟩
  (refine ord_norm (fun K hK => ?_); go_simp; refine hK _ ?_; clear hK K)
  have c1 := ((((Cel.box (i := 0) (v := .bool false) (t := 60) (b := w.heap.size + 1 + 1) (World.alloc (World.alloc w (.cells #[.bool s, .slice A n c] 60)) (.cells #[.bool s, .slice A' m d] 60)) #[.bool false, .slice none 0 0] rfl (by simp)).below (Below.refl _ _).drew).below hb1).below hb2)
  have c2 := ((((Cel.box (i := 1) (v := .slice none 0 0) (t := 60) (b := w.heap.size + 1 + 1) (World.alloc (World.alloc w (.cells #[.bool s, .slice A n c] 60)) (.cells #[.bool s, .slice A' m d] 60)) #[.bool false, .slice none 0 0] rfl (by simp)).below (Below.refl _ _).drew).below hb1).below hb2)
  obtain ⟨c1a, c1b, c1c⟩ := c1
  obtain ⟨c2a, c2b, c2c⟩ := c2
  (refine ord_act (by rfl) (fun K hK => ?_); go_simp)
  refine hK _ _ ⟨Grow.trans _ _ _ _ (Grow.set rfl _) (Grow.set rfl _), ?_⟩
  clear hK K
  refine ord_nil ?_
  have HO := Lib.hid o_r
  have HB := Lib.hid (bt (bt (bt (bt (bt ((Below.refl _ _).alloc (Nat.le_refl _) (.cells #[.bool s, .slice A n c] 60)) ((Below.refl _ _).alloc (Nat.le_refl _) (.cells #[.bool s, .slice A' m d] 60))) ((Below.refl _ _).alloc (Nat.le_refl _) (.cells #[.bool false, .slice none 0 0] 60))) (Below.refl _ _).drew) hb1) hb2)
  go_wp2
  refine bodyPost_ret (v := .agg #[.bool s_r, .slice A_r n_r c_r]) (by simp [results, Tryz.results119, go_sem, c1a, c2a]) rfl ?_
  refine GI.eq (gi_fin (L := (max L M + 1)) (wb := w1) hs_r HO.out HB.out ?_ (by omega)) (sg_same s x y)
  refine ⟨by omega, ?_⟩
  have := HBW.out.size
  simp at this
  omega
set_option maxHeartbeats 1000000 in
theorem add5_ge {A A' : Option Addr} {n c m d x y L M : Nat} {s t : Bool} {w : World} (h : Num w (.slice A n c) x L) (h' : Num w (.slice A' m d) y M) (hst : s ≠ t) (hle : y ≤ x) (hL1 : 1 ≤ L) (hL : L ≤ 8589934592) (hM : M ≤ 8589934592) :
    Calls Tryz.prog 119 #[.agg #[.bool s, .slice A n c], .agg #[.bool t, .slice A' m d]] w (GI w (sg s x + sg t y) (max L M + 1)) := by
  have q0 : (s == t) = false := by cases s <;> cases t <;> simp at hst ⊢
  have HST := Lib.hid hst
  have HLE := Lib.hid hle
  obtain ⟨z, hz⟩ : ∃ z, z = cmpN x y := ⟨_, rfl⟩
  have d0 : decide ((0 : Int) ≤ z) = true := by rw [hz, cmpN, if_neg (by omega)]; split <;> decide
  have CC := Lib.hid fun (w : World) (a : Num w (.slice A n c) x L) (b : Num w (.slice A' m d) y M) => cmp5_any a b (by omega) (by omega)
  rw [← hz] at CC
  clear hst hle hz
  have H := Lib.hid h
  have H' := Lib.hid h'
  clear h h'
  go_enter Tryz.func119, Tryz.ntmps119
  have e0 := (((At.boxc (i := 0) (v := .bool s) (t := 60) (b := w.heap.size) w #[.bool s, .slice A n c] rfl (by simp)).below ((Below.refl _ _).alloc (Nat.le_refl _) (.cells #[.bool t, .slice A' m d] 60))).below ((Below.refl _ _).alloc (Nat.le_refl _) (.cells #[.bool false, .slice none 0 0] 60))).1
  have e1 := ((At.boxc (i := 0) (v := .bool t) (t := 60) (b := w.heap.size + 1) (World.alloc w (.cells #[.bool s, .slice A n c] 60)) #[.bool t, .slice A' m d] rfl (by simp)).below ((Below.refl _ _).alloc (Nat.le_refl _) (.cells #[.bool false, .slice none 0 0] 60))).1
  have e2 := (((At.boxc (i := 1) (v := .slice A n c) (t := 60) (b := w.heap.size) w #[.bool s, .slice A n c] rfl (by simp)).below ((Below.refl _ _).alloc (Nat.le_refl _) (.cells #[.bool t, .slice A' m d] 60))).below ((Below.refl _ _).alloc (Nat.le_refl _) (.cells #[.bool false, .slice none 0 0] 60))).1
  have e3 := ((At.boxc (i := 1) (v := .slice A' m d) (t := 60) (b := w.heap.size + 1) (World.alloc w (.cells #[.bool s, .slice A n c] 60)) #[.bool t, .slice A' m d] rfl (by simp)).below ((Below.refl _ _).alloc (Nat.le_refl _) (.cells #[.bool false, .slice none 0 0] 60))).1
  go_wp2_with fail
  refine (CC.out _ (((H.out.below ((Below.refl _ _).alloc (Nat.le_refl _) (.cells #[.bool s, .slice A n c] 60))).below ((Below.refl _ _).alloc (Nat.le_refl _) (.cells #[.bool t, .slice A' m d] 60))).below ((Below.refl _ _).alloc (Nat.le_refl _) (.cells #[.bool false, .slice none 0 0] 60))) (((H'.out.below ((Below.refl _ _).alloc (Nat.le_refl _) (.cells #[.bool s, .slice A n c] 60))).below ((Below.refl _ _).alloc (Nat.le_refl _) (.cells #[.bool t, .slice A' m d] 60))).below ((Below.refl _ _).alloc (Nat.le_refl _) (.cells #[.bool false, .slice none 0 0] 60)))).mono ?_
  rintro e w1 ⟨rfl, hb1⟩
  clear e0 e1 e2 e3
  have HBC := Lib.hid hb1
  go_wp2_with fail
  have e_f0 := ((((At.boxc (i := 0) (v := .bool s) (t := 60) (b := w.heap.size) w #[.bool s, .slice A n c] rfl (by simp)).below ((Below.refl _ _).alloc (Nat.le_refl _) (.cells #[.bool t, .slice A' m d] 60))).below ((Below.refl _ _).alloc (Nat.le_refl _) (.cells #[.bool false, .slice none 0 0] 60))).below hb1).1
  have g_f0 := At.growS (b := (w.heap.size + 1 + 1)) ((((At.boxc (i := 0) (v := .bool s) (t := 60) (b := w.heap.size) w #[.bool s, .slice A n c] rfl (by simp)).below ((Below.refl _ _).alloc (Nat.le_refl _) (.cells #[.bool t, .slice A' m d] 60))).below ((Below.refl _ _).alloc (Nat.le_refl _) (.cells #[.bool false, .slice none 0 0] 60))).below hb1) (by simp <;> omega)
  have e_f1 := ((((At.boxc (i := 1) (v := .slice A n c) (t := 60) (b := w.heap.size) w #[.bool s, .slice A n c] rfl (by simp)).below ((Below.refl _ _).alloc (Nat.le_refl _) (.cells #[.bool t, .slice A' m d] 60))).below ((Below.refl _ _).alloc (Nat.le_refl _) (.cells #[.bool false, .slice none 0 0] 60))).below hb1).1
  have g_f1 := At.growS (b := (w.heap.size + 1 + 1)) ((((At.boxc (i := 1) (v := .slice A n c) (t := 60) (b := w.heap.size) w #[.bool s, .slice A n c] rfl (by simp)).below ((Below.refl _ _).alloc (Nat.le_refl _) (.cells #[.bool t, .slice A' m d] 60))).below ((Below.refl _ _).alloc (Nat.le_refl _) (.cells #[.bool false, .slice none 0 0] 60))).below hb1) (by simp <;> omega)
  have e_g1 := (((At.boxc (i := 1) (v := .slice A' m d) (t := 60) (b := w.heap.size + 1) (World.alloc w (.cells #[.bool s, .slice A n c] 60)) #[.bool t, .slice A' m d] rfl (by simp)).below ((Below.refl _ _).alloc (Nat.le_refl _) (.cells #[.bool false, .slice none 0 0] 60))).below hb1).1
  have g_g1 := At.growS (b := (w.heap.size + 1 + 1)) (((At.boxc (i := 1) (v := .slice A' m d) (t := 60) (b := w.heap.size + 1) (World.alloc w (.cells #[.bool s, .slice A n c] 60)) #[.bool t, .slice A' m d] rfl (by simp)).below ((Below.refl _ _).alloc (Nat.le_refl _) (.cells #[.bool false, .slice none 0 0] 60))).below hb1) (by simp <;> omega)
  refine wp_region_grow (some (w.heap.size + 1 + 1)) [(true, 0), (true, 1), (true, 2), (true, 3), (true, 4), (true, 5), (false, 6), (false, 7), (false, 8)] (by kernel_rfl) (by kernel_rfl) ?_
  repeat (refine ord_pas (by rfl) (fun K hK => ?_); go_simp; refine hK _ _ (fun w' hw' => (by first | (go_simp; done) | (go_simp; intro hh; cases hh))) ?_; clear hK K)
  (refine ord_call (by rfl) (fun K hK => ?_); go_simp; refine hK _ _ ?_; clear hK K)
  refine (minus5_any (((((H.out.below ((Below.refl _ _).alloc (Nat.le_refl _) (.cells #[.bool s, .slice A n c] 60))).below ((Below.refl _ _).alloc (Nat.le_refl _) (.cells #[.bool t, .slice A' m d] 60))).below ((Below.refl _ _).alloc (Nat.le_refl _) (.cells #[.bool false, .slice none 0 0] 60))).below hb1).below (Below.refl _ _).drew) (((((H'.out.below ((Below.refl _ _).alloc (Nat.le_refl _) (.cells #[.bool s, .slice A n c] 60))).below ((Below.refl _ _).alloc (Nat.le_refl _) (.cells #[.bool t, .slice A' m d] 60))).below ((Below.refl _ _).alloc (Nat.le_refl _) (.cells #[.bool false, .slice none 0 0] 60))).below hb1).below (Below.refl _ _).drew) HLE.out hL1 (by omega) (by omega)).mono ?_
  rintro e w2 ⟨A_p, n_p, c_p, rfl, o_p, hb2, l_p⟩
  refine ⟨_, rfl, Grow.of_below hb2, ?_⟩
  (refine ord_norm (fun K hK => ?_); go_simp; refine hK _ ?_; clear hK K)
  have HBW := Lib.hid (bt HBC.out (bd hb2))
  (refine ord_call (by rfl) (fun K hK => ?_); go_simp; refine hK _ _ ?_; clear hK K)
  refine (I5_any (o_p.num l_p) (by omega)).mono ?_
  rintro e w3 ⟨A_r, n_r, c_r, s_r, rfl, hs_r, o_r, hb3, l_r⟩
  refine ⟨_, rfl, Grow.of_below hb3, ?_⟩
  (refine ord_norm (fun K hK => ?_); go_simp; refine hK _ ?_; clear hK K)
  have c1 := (((((Cel.box (i := 0) (v := .bool false) (t := 60) (b := w.heap.size + 1 + 1) (World.alloc (World.alloc w (.cells #[.bool s, .slice A n c] 60)) (.cells #[.bool t, .slice A' m d] 60)) #[.bool false, .slice none 0 0] rfl (by simp)).below hb1).below (Below.refl _ _).drew).below hb2).below hb3)
  have c2 := (((((Cel.box (i := 1) (v := .slice none 0 0) (t := 60) (b := w.heap.size + 1 + 1) (World.alloc (World.alloc w (.cells #[.bool s, .slice A n c] 60)) (.cells #[.bool t, .slice A' m d] 60)) #[.bool false, .slice none 0 0] rfl (by simp)).below hb1).below (Below.refl _ _).drew).below hb2).below hb3)
  obtain ⟨c1a, c1b, c1c⟩ := c1
  obtain ⟨c2a, c2b, c2c⟩ := c2
  (refine ord_act (by rfl) (fun K hK => ?_); go_simp)
  refine hK _ _ ⟨Grow.trans _ _ _ _ (Grow.set rfl _) (Grow.set rfl _), ?_⟩
  clear hK K
  refine ord_nil ?_
  have HO := Lib.hid o_r
  have HB := Lib.hid (bt (bt (bt (bt (bt (bt ((Below.refl _ _).alloc (Nat.le_refl _) (.cells #[.bool s, .slice A n c] 60)) ((Below.refl _ _).alloc (Nat.le_refl _) (.cells #[.bool t, .slice A' m d] 60))) ((Below.refl _ _).alloc (Nat.le_refl _) (.cells #[.bool false, .slice none 0 0] 60))) hb1) (Below.refl _ _).drew) hb2) hb3)
  go_wp2
  refine bodyPost_ret (v := .agg #[.bool s_r, .slice A_r n_r c_r]) (by simp [results, Tryz.results119, go_sem, c1a, c2a]) rfl ?_
  refine GI.eq (gi_fin (L := (max L M + 1)) (wb := w2) hs_r HO.out HB.out ?_ (by omega)) (sg_diff HST.out HLE.out)
  refine ⟨by omega, ?_⟩
  have := HBW.out.size
  simp at this
  omega
set_option maxHeartbeats 1000000 in
theorem add5_lt {A A' : Option Addr} {n c m d x y L M : Nat} {s t : Bool} {w : World} (h : Num w (.slice A n c) x L) (h' : Num w (.slice A' m d) y M) (hst : s ≠ t) (hle : x < y) (hM1 : 1 ≤ M) (hL : L ≤ 8589934592) (hM : M ≤ 8589934592) :
    Calls Tryz.prog 119 #[.agg #[.bool s, .slice A n c], .agg #[.bool t, .slice A' m d]] w (GI w (sg s x + sg t y) (max L M + 1)) := by
  have q0 : (s == t) = false := by cases s <;> cases t <;> simp at hst ⊢
  have HST : Hid (t ≠ s) := Ne.symm hst
  have HLE : Hid (x ≤ y) := Nat.le_of_lt hle
  obtain ⟨z, hz⟩ : ∃ z, z = cmpN x y := ⟨_, rfl⟩
  have d0 : decide ((0 : Int) ≤ z) = false := by rw [hz, cmpN, if_pos hle]; decide
  have CC := Lib.hid fun (w : World) (a : Num w (.slice A n c) x L) (b : Num w (.slice A' m d) y M) => cmp5_any a b (by omega) (by omega)
  rw [← hz] at CC
  clear hst hle hz
  have H := Lib.hid h
  have H' := Lib.hid h'
  clear h h'
  go_enter Tryz.func119, Tryz.ntmps119
  have e0 := (((At.boxc (i := 0) (v := .bool s) (t := 60) (b := w.heap.size) w #[.bool s, .slice A n c] rfl (by simp)).below ((Below.refl _ _).alloc (Nat.le_refl _) (.cells #[.bool t, .slice A' m d] 60))).below ((Below.refl _ _).alloc (Nat.le_refl _) (.cells #[.bool false, .slice none 0 0] 60))).1
  have e1 := ((At.boxc (i := 0) (v := .bool t) (t := 60) (b := w.heap.size + 1) (World.alloc w (.cells #[.bool s, .slice A n c] 60)) #[.bool t, .slice A' m d] rfl (by simp)).below ((Below.refl _ _).alloc (Nat.le_refl _) (.cells #[.bool false, .slice none 0 0] 60))).1
  have e2 := (((At.boxc (i := 1) (v := .slice A n c) (t := 60) (b := w.heap.size) w #[.bool s, .slice A n c] rfl (by simp)).below ((Below.refl _ _).alloc (Nat.le_refl _) (.cells #[.bool t, .slice A' m d] 60))).below ((Below.refl _ _).alloc (Nat.le_refl _) (.cells #[.bool false, .slice none 0 0] 60))).1
  have e3 := ((At.boxc (i := 1) (v := .slice A' m d) (t := 60) (b := w.heap.size + 1) (World.alloc w (.cells #[.bool s, .slice A n c] 60)) #[.bool t, .slice A' m d] rfl (by simp)).below ((Below.refl _ _).alloc (Nat.le_refl _) (.cells #[.bool false, .slice none 0 0] 60))).1
  go_wp2_with fail
  refine (CC.out _ (((H.out.below ((Below.refl _ _).alloc (Nat.le_refl _) (.cells #[.bool s, .slice A n c] 60))).below ((Below.refl _ _).alloc (Nat.le_refl _) (.cells #[.bool t, .slice A' m d] 60))).below ((Below.refl _ _).alloc (Nat.le_refl _) (.cells #[.bool false, .slice none 0 0] 60))) (((H'.out.below ((Below.refl _ _).alloc (Nat.le_refl _) (.cells #[.bool s, .slice A n c] 60))).below ((Below.refl _ _).alloc (Nat.le_refl _) (.cells #[.bool t, .slice A' m d] 60))).below ((Below.refl _ _).alloc (Nat.le_refl _) (.cells #[.bool false, .slice none 0 0] 60)))).mono ?_
  rintro e w1 ⟨rfl, hb1⟩
  clear e0 e1 e2 e3
  have HBC := Lib.hid hb1
  go_wp2_with fail
  have e_g0 := (((At.boxc (i := 0) (v := .bool t) (t := 60) (b := w.heap.size + 1) (World.alloc w (.cells #[.bool s, .slice A n c] 60)) #[.bool t, .slice A' m d] rfl (by simp)).below ((Below.refl _ _).alloc (Nat.le_refl _) (.cells #[.bool false, .slice none 0 0] 60))).below hb1).1
  have g_g0 := At.growS (b := (w.heap.size + 1 + 1)) (((At.boxc (i := 0) (v := .bool t) (t := 60) (b := w.heap.size + 1) (World.alloc w (.cells #[.bool s, .slice A n c] 60)) #[.bool t, .slice A' m d] rfl (by simp)).below ((Below.refl _ _).alloc (Nat.le_refl _) (.cells #[.bool false, .slice none 0 0] 60))).below hb1) (by simp <;> omega)
  have e_g1 := (((At.boxc (i := 1) (v := .slice A' m d) (t := 60) (b := w.heap.size + 1) (World.alloc w (.cells #[.bool s, .slice A n c] 60)) #[.bool t, .slice A' m d] rfl (by simp)).below ((Below.refl _ _).alloc (Nat.le_refl _) (.cells #[.bool false, .slice none 0 0] 60))).below hb1).1
  have g_g1 := At.growS (b := (w.heap.size + 1 + 1)) (((At.boxc (i := 1) (v := .slice A' m d) (t := 60) (b := w.heap.size + 1) (World.alloc w (.cells #[.bool s, .slice A n c] 60)) #[.bool t, .slice A' m d] rfl (by simp)).below ((Below.refl _ _).alloc (Nat.le_refl _) (.cells #[.bool false, .slice none 0 0] 60))).below hb1) (by simp <;> omega)
  have e_f1 := ((((At.boxc (i := 1) (v := .slice A n c) (t := 60) (b := w.heap.size) w #[.bool s, .slice A n c] rfl (by simp)).below ((Below.refl _ _).alloc (Nat.le_refl _) (.cells #[.bool t, .slice A' m d] 60))).below ((Below.refl _ _).alloc (Nat.le_refl _) (.cells #[.bool false, .slice none 0 0] 60))).below hb1).1
  have g_f1 := At.growS (b := (w.heap.size + 1 + 1)) ((((At.boxc (i := 1) (v := .slice A n c) (t := 60) (b := w.heap.size) w #[.bool s, .slice A n c] rfl (by simp)).below ((Below.refl _ _).alloc (Nat.le_refl _) (.cells #[.bool t, .slice A' m d] 60))).below ((Below.refl _ _).alloc (Nat.le_refl _) (.cells #[.bool false, .slice none 0 0] 60))).below hb1) (by simp <;> omega)
  refine wp_region_grow (some (w.heap.size + 1 + 1)) [(true, 0), (true, 1), (true, 2), (true, 3), (true, 4), (true, 5), (false, 6), (false, 7), (false, 8)] (by kernel_rfl) (by kernel_rfl) ?_
  repeat (refine ord_pas (by rfl) (fun K hK => ?_); go_simp; refine hK _ _ (fun w' hw' => (by first | (go_simp; done) | (go_simp; intro hh; cases hh))) ?_; clear hK K)
  (refine ord_call (by rfl) (fun K hK => ?_); go_simp; refine hK _ _ ?_; clear hK K)
  refine (minus5_any (((((H'.out.below ((Below.refl _ _).alloc (Nat.le_refl _) (.cells #[.bool s, .slice A n c] 60))).below ((Below.refl _ _).alloc (Nat.le_refl _) (.cells #[.bool t, .slice A' m d] 60))).below ((Below.refl _ _).alloc (Nat.le_refl _) (.cells #[.bool false, .slice none 0 0] 60))).below hb1).below (Below.refl _ _).drew) (((((H.out.below ((Below.refl _ _).alloc (Nat.le_refl _) (.cells #[.bool s, .slice A n c] 60))).below ((Below.refl _ _).alloc (Nat.le_refl _) (.cells #[.bool t, .slice A' m d] 60))).below ((Below.refl _ _).alloc (Nat.le_refl _) (.cells #[.bool false, .slice none 0 0] 60))).below hb1).below (Below.refl _ _).drew) HLE.out hM1 (by omega) (by omega)).mono ?_
  rintro e w2 ⟨A_p, n_p, c_p, rfl, o_p, hb2, l_p⟩
  refine ⟨_, rfl, Grow.of_below hb2, ?_⟩
  (refine ord_norm (fun K hK => ?_); go_simp; refine hK _ ?_; clear hK K)
  have HBW := Lib.hid (bt HBC.out (bd hb2))
  (refine ord_call (by rfl) (fun K hK => ?_); go_simp; refine hK _ _ ?_; clear hK K)
  refine (I5_any (o_p.num l_p) (by omega)).mono ?_
  rintro e w3 ⟨A_r, n_r, c_r, s_r, rfl, hs_r, o_r, hb3, l_r⟩
  refine ⟨_, rfl, Grow.of_below hb3, ?_⟩
  (refine ord_norm (fun K hK => ?_); go_simp; refine hK _ ?_; clear hK K)
  have c1 := (((((Cel.box (i := 0) (v := .bool false) (t := 60) (b := w.heap.size + 1 + 1) (World.alloc (World.alloc w (.cells #[.bool s, .slice A n c] 60)) (.cells #[.bool t, .slice A' m d] 60)) #[.bool false, .slice none 0 0] rfl (by simp)).below hb1).below (Below.refl _ _).drew).below hb2).below hb3)
  have c2 := (((((Cel.box (i := 1) (v := .slice none 0 0) (t := 60) (b := w.heap.size + 1 + 1) (World.alloc (World.alloc w (.cells #[.bool s, .slice A n c] 60)) (.cells #[.bool t, .slice A' m d] 60)) #[.bool false, .slice none 0 0] rfl (by simp)).below hb1).below (Below.refl _ _).drew).below hb2).below hb3)
  obtain ⟨c1a, c1b, c1c⟩ := c1
  obtain ⟨c2a, c2b, c2c⟩ := c2
  (refine ord_act (by rfl) (fun K hK => ?_); go_simp)
  refine hK _ _ ⟨Grow.trans _ _ _ _ (Grow.set rfl _) (Grow.set rfl _), ?_⟩
  clear hK K
  refine ord_nil ?_
  have HO := Lib.hid o_r
  have HB := Lib.hid (bt (bt (bt (bt (bt (bt ((Below.refl _ _).alloc (Nat.le_refl _) (.cells #[.bool s, .slice A n c] 60)) ((Below.refl _ _).alloc (Nat.le_refl _) (.cells #[.bool t, .slice A' m d] 60))) ((Below.refl _ _).alloc (Nat.le_refl _) (.cells #[.bool false, .slice none 0 0] 60))) hb1) (Below.refl _ _).drew) hb2) hb3)
  go_wp2
  refine bodyPost_ret (v := .agg #[.bool s_r, .slice A_r n_r c_r]) (by simp [results, Tryz.results119, go_sem, c1a, c2a]) rfl ?_
  refine GI.eq (gi_fin (L := (max L M + 1)) (wb := w2) hs_r HO.out HB.out ?_ (by omega)) ((sg_diff HST.out HLE.out).trans (Int.add_comm _ _))
  refine ⟨by omega, ?_⟩
  have := HBW.out.size
  simp at this
  omega
theorem add5_any {A A' : Option Addr} {n c m d x y L M : Nat} {s t : Bool} {z1 z2 : Int} {w : World} (h : Num w (.slice A n c) x L) (h' : Num w (.slice A' m d) y M) (hz1 : sg s x = z1) (hz2 : sg t y = z2) (hL1 : 1 ≤ L) (hM1 : 1 ≤ M) (hL : L ≤ 8589934592) (hM : M ≤ 8589934592) :
    Calls Tryz.prog 119 #[.agg #[.bool s, .slice A n c], .agg #[.bool t, .slice A' m d]] w (GI w (z1 + z2) (max L M + 1)) := by
  subst hz1 hz2
  by_cases hst : s = t
  · exact add5_same h h' hst hL hM
  · rcases Nat.lt_or_ge x y with hle | hle
    · exact add5_lt h h' hst hle hM1 hL hM
    · exact add5_ge h h' hst hle hL1 hL hM
set_option maxHeartbeats 400000 in
theorem Z5_nat {x : Nat} {x' : Int} {w : World} (ex : x' = (x : Int)) (hx : x < 65536) : Calls Tryz.prog 64 #[.int .i64 x'] w (GI w (x : Int) 1) := by
  subst ex
  have d0 : decide ((x : Int) < 0) = false := by simp
  go_enter Tryz.func64, Tryz.ntmps64
  go_wp2_with fail
  refine (word5_any (x := x) rfl hx).mono ?_
  rintro e w1 ⟨A_p, n_p, c_p, rfl, o_p, hb1, l_p⟩
  have HBW := Lib.hid hb1
  go_wp2_with fail
  refine (I5_any (o_p.num l_p) (by omega)).mono ?_
  rintro e w2 ⟨A_r, n_r, c_r, s_r, rfl, hs_r, o_r, hb2, l_r⟩
  have c1 := (((Cel.box (i := 0) (v := .bool false) (t := 60) (b := w.heap.size) w #[.bool false, .slice none 0 0] rfl (by simp)).below hb1).below hb2)
  have c2 := (((Cel.box (i := 1) (v := .slice none 0 0) (t := 60) (b := w.heap.size) w #[.bool false, .slice none 0 0] rfl (by simp)).below hb1).below hb2)
  obtain ⟨c1a, c1b, c1c⟩ := c1
  obtain ⟨c2a, c2b, c2c⟩ := c2
  have HO := Lib.hid o_r
  have HB := Lib.hid (bt (bt ((Below.refl _ _).alloc (Nat.le_refl _) (.cells #[.bool false, .slice none 0 0] 60)) hb1) hb2)
  go_wp2
  refine bodyPost_ret (v := .agg #[.bool s_r, .slice A_r n_r c_r]) (by simp [results, Tryz.results64, go_sem, c1a, c2a]) rfl ?_
  refine GI.eq (gi_fin (L := 1) (wb := w1) hs_r HO.out HB.out ?_ (by omega)) (sg_false x)
  refine ⟨by omega, ?_⟩
  have := HBW.out.size
  simp at this
  omega
set_option maxHeartbeats 400000 in
theorem Z5_neg {x : Nat} {x' : Int} {w : World} (ex : x' = -(x : Int)) (hx0 : 0 < x) (hx : x < 65536) : Calls Tryz.prog 64 #[.int .i64 x'] w (GI w (-(x : Int)) 1) := by
  subst ex
  have d0 : decide (-(x : Int) < 0) = true := by simp; omega
  go_enter Tryz.func64, Tryz.ntmps64
  go_wp2_with fail
  refine (word5_any (x := x) (by first | omega | (rw [Int.neg_neg])) hx).mono ?_
  rintro e w1 ⟨A_p, n_p, c_p, rfl, o_p, hb1, l_p⟩
  have HBW := Lib.hid hb1
  go_wp2_with fail
  refine (I5_any (o_p.num l_p) (by omega)).mono ?_
  rintro e w2 ⟨A_r, n_r, c_r, s_r, rfl, hs_r, o_r, hb2, l_r⟩
  have c1 := (((Cel.box (i := 0) (v := .bool false) (t := 60) (b := w.heap.size) w #[.bool false, .slice none 0 0] rfl (by simp)).below hb1).below hb2)
  have c2 := (((Cel.box (i := 1) (v := .slice none 0 0) (t := 60) (b := w.heap.size) w #[.bool false, .slice none 0 0] rfl (by simp)).below hb1).below hb2)
  obtain ⟨c1a, c1b, c1c⟩ := c1
  obtain ⟨c2a, c2b, c2c⟩ := c2
  have HO := Lib.hid o_r
  have HB := Lib.hid (bt (bt ((Below.refl _ _).alloc (Nat.le_refl _) (.cells #[.bool false, .slice none 0 0] 60)) hb1) hb2)
  go_wp2
  refine bodyPost_ret (v := .agg #[.bool s_r, .slice A_r n_r c_r]) (by simp [results, Tryz.results64, go_sem, c1a, c2a]) rfl ?_
  refine GI.eq (gi_fin (L := 1) (wb := w1) hs_r HO.out HB.out ?_ (by omega)) (sg_true x)
  refine ⟨by omega, ?_⟩
  have := HBW.out.size
  simp at this
  omega
end Go.Proofs.YtphofjinncbaaaaGreat
namespace Go.Proofs.YtphofjinncbaaaaGreat
open Go.RowKit
set_option linter.unusedVariables false

/-- the number that a slice of digits reads as -/
def mvalb (b : Nat) (w : World) : Value → Nat
  | .slice (some a) n _ => val b ((List.range n).map fun i => cellNat (w.cell? (a.add i)))
  | _ => 0
theorem mvalb_rd {b : Nat} {k : IntKind} {w : World} {A : Option Addr} {n c : Nat} {xs : List Nat} (h1 : Rd k w A n c xs) : mvalb b w (.slice A n c) = val b xs := by
  rcases A with _ | a
  · have hn : n = 0 := by
      rcases Nat.eq_zero_or_pos n with h0 | h0
      · exact h0
      · obtain ⟨b, off, e, _⟩ := h1.2 h0
        cases e
    have := h1.len
    rw [hn] at this
    rw [List.eq_nil_of_length_eq_zero this]
    rfl
  · have : (List.range n).map (fun i => cellNat (w.cell? (a.add i))) = xs := by
      refine List.ext_getElem (by simp [h1.len]) fun i hi hi' => ?_
      have hin : i < n := by simpa using hi
      obtain ⟨b, off, e, _, hc⟩ := h1.at hin
      injection e with e
      subst e
      simp only [List.getElem_map, List.getElem_range, addo, hc, cellNat]
      rw [nth_lt hi']
      simp
    simp only [mvalb, this]
def Gc5I (w0 : World) (x y K : Nat) (wr : World) (A1 : Option Addr) (n1 c1 : Nat) (A2 : Option Addr) (n2 c2 s t : Nat) : Prop :=
  Own .i64 3 w0.heap.size wr A1 n1 c1 (dg D s) ∧ Own .i64 3 w0.heap.size wr A2 n2 c2 (dg D t) ∧ Below w0.heap.size w0 wr ∧ Nat.gcd s t = Nat.gcd x y ∧ n1 ≤ 4 * K ∧ n2 ≤ 4 * K
set_option maxHeartbeats 2000000 in
theorem gcd5_any {v u : Value} {x y L M K : Nat} {w : World} (h : Num w v x L) (h' : Num w u y M) (hLK : L ≤ K) (hMK : M ≤ K) (hK1 : 1 ≤ K) (hK : K ≤ 17179869184) :
    Calls Tryz.prog 75 #[v, u] w (GN w (Nat.gcd x y) K) := by
  have H := Lib.hid h
  have H' := Lib.hid h'
  have C := Lib.hid (ones63_any h h' (by omega) (by omega))
  have HX := Lib.hid h.lt
  have HY := Lib.hid h'.lt
  obtain ⟨_, _, _, _, rfl, _⟩ := id h
  obtain ⟨_, _, _, _, rfl, _⟩ := id h'
  clear h h'
  go_enter Tryz.func75, Tryz.ntmps75
  go_wp2_with fail
  refine C.out.mono ?_
  rintro e wo ⟨p, q, t, rfl, ht, hbo⟩
  have HBo := Lib.hid hbo
  rcases t with _ | _
  · clear ht
    go_wp2
    go_loop [5] (fun sv => sv = .int .u64 (p : Int)) (fun sv => 0)
    case atStart => rfl
    case round =>
      subst hrel
      go_wp2_with fail
      refine (digits5_any (H.out.below hbo) (by omega)).mono ?_
      rintro e w1 ⟨A_da, n_da, c_da, rfl, o_da, hb1⟩
      go_wp2_with fail
      refine (digits5_any ((H'.out.below hbo).below hb1) (by omega)).mono ?_
      rintro e w2 ⟨A_db, n_db, c_db, rfl, o_db, hb2⟩
      have HS : Hid (Gc5I w x y K w2 A_da n_da c_da A_db n_db c_db x y) := ⟨((o_da.mono hbo.size).below hb2), (o_db.mono (bt hbo hb1).size), (bt (bt hbo hb1) hb2), rfl, by rw [← o_da.len]; exact Nat.le_trans (dg_len D_gt (by have := HX.out; rw [W_D, ← Nat.pow_mul] at this; exact this)) (by omega), by rw [← o_db.len]; exact Nat.le_trans (dg_len D_gt (by have := HY.out; rw [W_D, ← Nat.pow_mul] at this; exact this)) (by omega)⟩
      clear o_da o_db
      go_wp2
      go_loopw [8, 9] (fun av bv wr => ∃ (A1 A2 : Option Addr) (n1 c1 n2 c2 s t : Nat), Hid (Gc5I w x y K wr A1 n1 c1 A2 n2 c2 s t) ∧ av = .slice A1 n1 c1 ∧ bv = .slice A2 n2 c2) (fun av bv wr => mvalb D wr bv)
      case atStart => exact ⟨_, _, _, _, _, _, _, _, HS, rfl, rfl⟩
      case round =>
        obtain ⟨A1, A2, n1, c1, n2, c2, s, t, hI, rfl, rfl⟩ := hrel
        obtain ⟨o1, o2, hbw, hg, l1, l2⟩ := hI.out
        have HG := Lib.hid hg
        have HBW := Lib.hid hbw
        rcases Nat.eq_zero_or_pos t with ht | ht
        · have hn0 : n2 = 0 := by rw [← o2.len, ht, dg_zero D_gt]; rfl
          subst hn0
          have C2 := Lib.hid (number5_any (L := 4 * K) (o1.dig (dg_all D_gt s) (dg_val D_gt s) l1) (by omega))
          have HE : Hid (s = Nat.gcd x y) := by show _ = _; rw [← hg, ht, Nat.gcd_zero_right]
          clear hI o1 o2 hbw hg
          go_wp2_with fail
          refine C2.out.mono ?_
          rintro e w3 ⟨A3, n3, c3, rfl, ho3, hb3, hl3⟩
          have HO := Lib.hid (And.intro (ho3.mono HBW.out.size) (bt HBW.out hb3))
          rw [HE.out] at HO
          clear ho3 hb3
          go_wp2
          go_ret
          exact ⟨_, _, _, rfl, HO.out.1, HO.out.2, by omega⟩
        · have hn0 : 0 < n2 := by
            rw [← o2.len]
            exact List.length_pos_iff.2 fun e => by rw [dg_nil_iff D_gt] at e; omega
          have HTB : Hid (nth (dg D t) (n2 - 1) ≠ 0) := by
            have := norm_top (dg_norm (b := D) t) (by rw [o2.len]; exact hn0)
            rw [o2.len] at this
            exact this
          have CD := Lib.hid (divide5_any o1.rd o2.rd (dg_all D_gt s) (dg_all D_gt t) (dg_val D_gt t) hn0 HTB.out (by omega) (by omega))
          rw [dg_val D_gt] at CD
          have HMV : Hid (mvalb D wr (.slice A2 n2 c2) = t) := by show _ = _; rw [mvalb_rd o2.rd, dg_val D_gt]
          have HLT : Hid (s % t < t) := Nat.mod_lt _ ht
          have HO2 := Lib.hid o2
          clear hI o1 o2 hbw hg ht HTB
          go_wp2_with fail
          refine CD.out.mono ?_
          rintro e wd ⟨A_q, n_q, c_q, A_r, n_r, c_r, xq, xr, rfl, o_q, a_q, v_q, l_q, o_r, a_r, v_r, l_r, hbd⟩
          have C3 := Lib.hid (cut5_any o_r.rd (by omega))
          have HOR := Lib.hid (And.intro o_r hbd)
          have HVR : Hid (strip xr = dg D (s % t)) := by show _ = _; rw [strip_eq_dg D_gt a_r, v_r]
          clear o_q a_q v_q l_q o_r a_r v_r hbd
          go_wp2_with fail
          refine C3.out.mono ?_
          rintro e w6 ⟨q6, rfl, hq6, ht6, rfl⟩
          have HF := HOR.out.1.upto hq6
          rw [ht6, HVR.out] at HF
          have HNEW : Hid (Gc5I w x y K wd A2 n2 c2 A_r q6 c_r t (s % t) ∧ mvalb D wd (.slice A_r q6 c_r) = s % t) := by
            refine ⟨⟨HO2.out.below HOR.out.2, HF.mono HBW.out.size, bt HBW.out HOR.out.2, ?_, l2, by omega⟩, ?_⟩
            · rw [← HG.out, Nat.gcd_comm t, ← Nat.gcd_rec, Nat.gcd_comm]
            · rw [mvalb_rd HF.rd, dg_val D_gt]
          clear HF ht6
          go_wp2
          go_roundw
          case rel => exact ⟨_, _, _, _, _, _, _, _, HNEW.out.1, rfl, rfl⟩
          case measure => rw [HNEW.out.2, HMV.out]; exact HLT.out
  · obtain ⟨rfl, rfl, hx, hy⟩ := ht rfl
    clear ht
    go_wp2
    go_loopw [5, 6] (fun sv tv wr => ∃ (s t : Nat), Hid (Nat.gcd s t = Nat.gcd p q ∧ Below wo.heap.size wo wr) ∧ s < 9223372036854775808 ∧ t < 9223372036854775808 ∧ sv = .int .u64 (s : Int) ∧ tv = .int .u64 (t : Int)) (fun _ tv _ => (intOf tv).toNat)
    case atStart => exact ⟨p, q, ⟨rfl, Below.refl _ _⟩, hx, hy, rfl, rfl⟩
    case round =>
      obtain ⟨s, t, hI, hs, ht, rfl, rfl⟩ := hrel
      rcases Nat.eq_zero_or_pos t with h0 | h0
      · subst h0
        have d0 : decide ((0 : Int) < ((0 : Nat) : Int)) = false := by simp
        have HE : Hid (s = Nat.gcd p q) := by show _ = _; rw [← hI.out.1, Nat.gcd_zero_right]
        have hbw := Lib.hid (bt HBo.out hI.out.2)
        go_wp2_with fail
        refine (of5_any (x := s) rfl (by rw [W_eq]; omega)).mono ?_
        rintro e w3 ⟨A3, n3, c3, rfl, ho3, hb3, hl3⟩
        have HO := Lib.hid (And.intro (ho3.mono hbw.out.size) (bt hbw.out hb3))
        rw [HE.out] at HO
        clear ho3 hb3
        go_wp2
        go_ret
        exact ⟨_, _, _, rfl, HO.out.1, HO.out.2, by omega⟩
      · have d0 : decide ((0 : Int) < (t : Int)) = true := by simp; exact h0
        have nz : ((t : Int) == 0) = false := by rw [beq_eq_false_iff_ne]; omega
        have nz2 : (t : Int) ≠ 0 := by omega
        have nz3 : ¬ t = 0 := by omega
        obtain ⟨R, hR⟩ : ∃ R, R = s % t := ⟨_, rfl⟩
        have eR : (s : Int) % (t : Int) = (R : Int) := by rw [hR, Int.natCast_emod]
        have hRl : R < t := by rw [hR]; exact Nat.mod_lt _ h0
        have HR : Hid (Nat.gcd t R = Nat.gcd p q) := by show _ = _; rw [hR, ← hI.out.1, Nat.gcd_comm t, ← Nat.gcd_rec, Nat.gcd_comm]
        have eR2 := lay (show (s : Int).tmod (t : Int) = (R : Int) by rw [Int.tmod_eq_emod_of_nonneg (by omega)]; exact eR)
        have wR : IntKind.u64.wrap (R : Int) = (R : Int) := wrapN _ (by omega)
        have WR := lay wR
        clear hR wR
        go_wp2_with fail
        refine wp_region_grow none [(true, 0), (true, 1), (true, 2), (true, 3), (true, 4), (true, 5)] (by kernel_rfl) (by kernel_rfl) ?_
        repeat (refine ord_pas (by rfl) (fun K hK => ?_); go_simp; refine hK _ _ (fun w' hw' => (by first | (go_simp; done) | (go_simp; intro hh; cases hh))) ?_; clear hK K)
        refine ord_nil ?_
        go_wp2
        go_roundw
        case rel => exact ⟨t, R, ⟨HR.out, bt hI.out.2 (below_drewN _ 1)⟩, ht, by omega, rfl, rfl⟩
        case measure => simp [intOf]; omega

set_option maxHeartbeats 1000000 in
theorem all5_any {A : Option Addr} {n c K : Nat} {xs ls : List Nat} {w : World} (h : Nums w A n c xs ls) (hn : n ≤ 1048576) (hl : ∀ i, nth ls i ≤ K) (hK1 : 1 ≤ K) (hK : K ≤ 268435456) : Calls Tryz.prog 76 #[.slice A n c] w (GN w (gall xs) K) := by
  have H := Lib.hid h
  have HL := Lib.hid hl
  clear h hl
  go_enter Tryz.func76, Tryz.ntmps76
  go_wp2
  go_loopw [3, 4] (fun sv i wr => ∃ (k : Nat) (B : Option Addr) (q e : Nat), Hid (Own .u64 81 w.heap.size wr B q e (dg W (gall (xs.take k))) ∧ Below w.heap.size w wr) ∧ k ≤ n ∧ q ≤ K ∧ sv = .slice B q e ∧ i = .int .i64 k) (fun _ i _ => n - (intOf i).toNat)
  case atStart =>
    refine ⟨0, _, _, _, ⟨?_, belowA _ _⟩, Nat.zero_le _, Nat.zero_le _, rfl, rfl⟩
    rw [List.take_zero]
    show Own _ _ _ _ _ _ _ (dg W 0)
    rw [dg_zero W_gt]
    exact Own.lit (k := .u64) (t := 81) w [] (by simp [maxLen]) (Nat.le_refl _)
  case round =>
    obtain ⟨k, B, q, e, hI, hk, hq, rfl, rfl⟩ := hrel
    by_cases hlt : k < n
    · obtain ⟨b, off, v, ea, hb, hca, hv⟩ := (H.out.below hI.out.2).at hlt
      subst ea
      have HV := Lib.hid hv
      have HT := Lib.hid (gall_take (xs := xs) (k := k) (by rw [H.out.1.1]; exact hlt))
      have HLK := Lib.hid (HL.out k)
      obtain ⟨a1, a2, a3, _, rfl, _⟩ := id hv
      clear hv
      have i1 : (k : Int) < (n : Int) := by omega
      have i0 : (0 : Int) ≤ (k : Int) := by omega
      go_wp2_with fail
      refine (gcd5_any (hI.out.1.num hq) HV.out (Nat.le_refl _) HLK.out hK1 (by omega)).mono ?_
      rintro e w3 ⟨A3, n3, c3, rfl, ho3, hb3, hl3⟩
      go_wp2
      go_roundw
      case rel =>
        refine ⟨k + 1, A3, _, c3, ⟨?_, bt hI.out.2 hb3⟩, by omega, hl3, rfl, by go_num⟩
        rw [HT.out]
        exact ho3.mono hI.out.2.size
      case measure => simp [intOf]; omega
    · obtain rfl : k = n := by omega
      go_wp2
      go_ret
      have ho := hI.out.1
      rw [List.take_of_length_le (by rw [H.out.1.1]; exact Nat.le_refl _)] at ho
      exact ⟨_, _, _, rfl, ho, hI.out.2, hq⟩
set_option maxHeartbeats 1000000 in
theorem lcm5_any {v u : Value} {x y L M : Nat} {w : World} (h : Num w v x L) (h' : Num w u y M) (hL1 : 1 ≤ L) (hM1 : 1 ≤ M) (hL : L ≤ 268435456) (hM : M ≤ 268435456) :
    Calls Tryz.prog 77 #[v, u] w (GN w (Nat.lcm x y) (L + M)) := by
  have H := Lib.hid h
  have H' := Lib.hid h'
  obtain ⟨_, _, _, _, rfl, _⟩ := id h
  obtain ⟨_, _, _, _, rfl, _⟩ := id h'
  clear h h'
  by_cases hz : x = 0 ∨ y = 0
  · have HZ : Hid (Nat.lcm x y = 0) := by show _ = _; rcases hz with rfl | rfl <;> simp
    by_cases hx : x = 0
    · have q0 : decide (x = 0) = true := by simpa using hx
      clear hz hx
      go_enter Tryz.func77, Tryz.ntmps77
      go_wp2_with fail
      refine (zero5_any H.out (by omega)).mono ?_
      rintro e w1 ⟨rfl, hb1⟩
      go_wp2
      go_ret
      refine ⟨_, _, _, rfl, ?_, hb1.trans ((Below.refl _ _).alloc hb1.size _), Nat.zero_le _⟩
      rw [HZ.out, dg_zero W_gt]
      exact (Own.lit (k := .u64) (t := 81) w1 [] (by simp [maxLen]) (Nat.le_refl _)).mono hb1.size
    · have q0 : decide (x = 0) = false := by simpa using hx
      have q1 : decide (y = 0) = true := by simp; omega
      clear hz hx
      go_enter Tryz.func77, Tryz.ntmps77
      go_wp2_with fail
      refine (zero5_any H.out (by omega)).mono ?_
      rintro e w2 ⟨rfl, hb2⟩
      go_wp2_with fail
      refine (zero5_any (H'.out.below hb2) (by omega)).mono ?_
      rintro e w3 ⟨rfl, hb3⟩
      go_wp2
      go_ret
      refine ⟨_, _, _, rfl, ?_, (bt hb2 hb3).trans ((Below.refl _ _).alloc (bt hb2 hb3).size _), Nat.zero_le _⟩
      rw [HZ.out, dg_zero W_gt]
      exact (Own.lit (k := .u64) (t := 81) w3 [] (by simp [maxLen]) (Nat.le_refl _)).mono (bt hb2 hb3).size
  · have q0 : decide (x = 0) = false := by simp; omega
    have q1 : decide (y = 0) = false := by simp; omega
    have HG : Hid (0 < Nat.gcd x y) := Nat.gcd_pos_of_pos_left y (by omega)
    have HE : Hid (x * y / Nat.gcd x y = Nat.lcm x y) := rfl
    clear hz
    go_enter Tryz.func77, Tryz.ntmps77
    go_wp2_with fail
    refine (zero5_any H.out (by omega)).mono ?_
    rintro e w4 ⟨rfl, hb4⟩
    go_wp2_with fail
    refine (zero5_any (H'.out.below hb4) (by omega)).mono ?_
    rintro e w5 ⟨rfl, hb5⟩
    go_wp2_with fail
    refine (times5_any ((H.out.below hb4).below hb5) ((H'.out.below hb4).below hb5) (by omega) (by omega)).mono ?_
    rintro e w6 ⟨A_p, n_p, c_p, rfl, o_p, hb6, l_p⟩
    go_wp2_with fail
    refine (gcd5_any (((H.out.below hb4).below hb5).below hb6) (((H'.out.below hb4).below hb5).below hb6) (K := max L M) (by omega) (by omega) (by omega) (by omega)).mono ?_
    rintro e w7 ⟨A_g, n_g, c_g, rfl, o_g, hb7, l_g⟩
    go_wp2_with fail
    refine (quo5_any ((o_p.num l_p).below hb7) (o_g.num l_g) HG.out (by omega) (by omega) (by omega) (by omega)).mono ?_
    rintro e w8 ⟨A_q, n_q, c_q, A_r, n_r, c_r, rfl, o_q, o_r, hb8, l_q, l_r⟩
    go_wp2
    go_ret
    rw [HE.out] at o_q
    exact ⟨_, _, _, rfl, (o_q.mono (bt (bt (bt hb4 hb5) hb6) hb7).size), (bt (bt (bt (bt hb4 hb5) hb6) hb7) hb8), by omega⟩
/-- the least common multiple of all -/
def llcm (xs : List Nat) : Nat := xs.foldl Nat.lcm 1
theorem llcm_take {xs : List Nat} {k : Nat} (h : k < xs.length) : llcm (xs.take (k + 1)) = Nat.lcm (llcm (xs.take k)) (nth xs k) := by
  rw [List.take_succ_eq_append_getElem h, llcm, List.foldl_append, nth_lt h]; rfl
set_option maxHeartbeats 1000000 in
theorem alllcm5_any {A : Option Addr} {n c : Nat} {xs ls : List Nat} {w : World} (h : Nums w A n c xs ls) (hn : n ≤ 1048576) (hl1 : ∀ i, i < n → 1 ≤ nth ls i) (hl : lsum ls ≤ 67108864) : Calls Tryz.prog 78 #[.slice A n c] w (GN w (llcm xs) (lsum ls + 1)) := by
  have H := Lib.hid h
  have HL := Lib.hid hl1
  have h1W : Hid (1 < W) := W_gt
  clear h hl1
  go_enter Tryz.func78, Tryz.ntmps78
  go_wp2_with fail
  refine (word5_any (w := w) (x := 1) rfl (by omega)).mono ?_
  rintro e w1 ⟨A1, n1, c1, rfl, ho1, hb1, hl1⟩
  have HS : Hid (Own .u64 81 w.heap.size w1 A1 n1 c1 (dg W (llcm (xs.take 0))) ∧ Below w.heap.size w w1) := ⟨ho1, hb1⟩
  clear ho1 hb1
  go_wp2
  go_loopw [3, 4] (fun sv i wr => ∃ (k : Nat) (B : Option Addr) (q e : Nat), Hid (Own .u64 81 w.heap.size wr B q e (dg W (llcm (xs.take k))) ∧ Below w.heap.size w wr) ∧ k ≤ n ∧ q ≤ lsum (ls.take k) + 1 ∧ sv = .slice B q e ∧ i = .int .i64 k) (fun _ i _ => n - (intOf i).toNat)
  case atStart => exact ⟨0, _, _, _, HS, Nat.zero_le _, by omega, rfl, rfl⟩
  case round =>
    obtain ⟨k, B, q, e, hI, hk, hq, rfl, rfl⟩ := hrel
    by_cases hlt : k < n
    · obtain ⟨b, off, v, ea, hb, hca, hv⟩ := (H.out.below hI.out.2).at hlt
      subst ea
      have HV := Lib.hid hv
      have HT := Lib.hid (llcm_take (xs := xs) (k := k) (by rw [H.out.1.1]; exact hlt))
      have hl2 : lsum (ls.take (k + 1)) = lsum (ls.take k) + nth ls k := lsum_take_succ (by rw [H.out.1.2.1]; exact hlt)
      have hl3 := lsum_take_le ls (k + 1)
      have hl4 := HL.out k hlt
      obtain ⟨Q, hQ⟩ : ∃ Q, Q = lsum (ls.take k) + 1 := ⟨_, rfl⟩
      have b1 : Q + nth ls k ≤ 67108865 := by omega
      have b2 : Q + nth ls k ≤ lsum (ls.take (k + 1)) + 1 := by omega
      have b3 : q ≤ Q := by omega
      have b4 : 1 ≤ Q := by omega
      have HB2 := Lib.hid b2
      have HL4 := Lib.hid hl4
      obtain ⟨a1, a2, a3, _, rfl, _⟩ := id hv
      clear hv hl2 hl3 b2 hQ hl4
      have i1 : (k : Int) < (n : Int) := by omega
      have i0 : (0 : Int) ≤ (k : Int) := by omega
      go_wp2_with fail
      refine (lcm5_any (hI.out.1.num b3) HV.out b4 HL4.out (by omega) (by omega)).mono ?_
      rintro e w3 ⟨A3, n3, c3, rfl, ho3, hb3, hl3⟩
      go_wp2
      go_roundw
      case rel =>
        refine ⟨k + 1, A3, _, c3, ⟨?_, bt hI.out.2 hb3⟩, by omega, by have := HB2.out; omega, rfl, by go_num⟩
        rw [HT.out]
        exact ho3.mono hI.out.2.size
      case measure => simp [intOf]; omega
    · obtain rfl : k = n := by omega
      go_wp2
      go_ret
      have ho := hI.out.1
      rw [List.take_of_length_le (by rw [H.out.1.1]; exact Nat.le_refl _)] at ho
      rw [List.take_of_length_le (by rw [H.out.1.2.1]; exact Nat.le_refl _)] at hq
      exact ⟨_, _, _, rfl, ho, hI.out.2, hq⟩
set_option maxHeartbeats 1000000 in
theorem galllcm_any {A : Option Addr} {n c : Nat} {xs ls : List Nat} {w : World} (h : Nums w A n c xs ls) (hn : n ≤ 1048576) (hl1 : ∀ i, i < n → 1 ≤ nth ls i) (hl : lsum ls ≤ 67108864) : Calls Tryz.prog 87 #[.slice A n c] w (GN w (llcm xs) (lsum ls + 1)) := by
  have H := Lib.hid h
  have HL := Lib.hid hl1
  have h1W : Hid (1 < W) := W_gt
  clear h hl1
  go_enter Tryz.func87, Tryz.ntmps87
  go_wp2_with fail
  refine (nof_any (w := w) (x := 1) rfl h1W.out).mono ?_
  rintro e w1 ⟨A1, n1, c1, rfl, ho1, hb1, hl1⟩
  have HS : Hid (Own .u64 81 w.heap.size w1 A1 n1 c1 (dg W (llcm (xs.take 0))) ∧ Below w.heap.size w w1) := ⟨ho1, hb1⟩
  clear ho1 hb1
  go_wp2
  go_loopw [3, 9] (fun sv i wr => ∃ (k : Nat) (B : Option Addr) (q e : Nat), Hid (Own .u64 81 w.heap.size wr B q e (dg W (llcm (xs.take k))) ∧ Below w.heap.size w wr) ∧ k ≤ n ∧ q ≤ lsum (ls.take k) + 1 ∧ sv = .slice B q e ∧ i = .int .i64 k) (fun _ i _ => n - (intOf i).toNat)
  case atStart => exact ⟨0, _, _, _, HS, Nat.zero_le _, by omega, rfl, rfl⟩
  case round =>
    obtain ⟨k, B, q, e, hI, hk, hq, rfl, rfl⟩ := hrel
    by_cases hlt : k < n
    · obtain ⟨b, off, v, ea, hb, hca, hv⟩ := (H.out.below hI.out.2).at hlt
      subst ea
      have HV := Lib.hid hv
      have HT := Lib.hid (llcm_take (xs := xs) (k := k) (by rw [H.out.1.1]; exact hlt))
      have hl2 : lsum (ls.take (k + 1)) = lsum (ls.take k) + nth ls k := lsum_take_succ (by rw [H.out.1.2.1]; exact hlt)
      have hl3 := lsum_take_le ls (k + 1)
      have hl4 := HL.out k hlt
      obtain ⟨Q, hQ⟩ : ∃ Q, Q = lsum (ls.take k) + 1 := ⟨_, rfl⟩
      have b1 : Q + nth ls k ≤ 67108865 := by omega
      have b2 : Q + nth ls k ≤ lsum (ls.take (k + 1)) + 1 := by omega
      have b3 : q ≤ Q := by omega
      have b4 : 1 ≤ Q := by omega
      have HB2 := Lib.hid b2
      have HL4 := Lib.hid hl4
      obtain ⟨a1, a2, a3, _, rfl, _⟩ := id hv
      clear hv hl2 hl3 b2 hQ hl4
      have i1 : (k : Int) < (n : Int) := by omega
      have i0 : (0 : Int) ≤ (k : Int) := by omega
      go_wp2_with fail
      refine (lcm_any (hI.out.1.num b3) HV.out  (by omega) (by omega)).mono ?_
      rintro e w3 ⟨A3, n3, c3, rfl, ho3, hb3, hl3⟩
      go_wp2
      go_roundw
      case rel =>
        refine ⟨k + 1, A3, _, c3, ⟨?_, bt hI.out.2 hb3⟩, by omega, by have := HB2.out; omega, rfl, by go_num⟩
        rw [HT.out]
        exact ho3.mono hI.out.2.size
      case measure => simp [intOf]; omega
    · obtain rfl : k = n := by omega
      go_wp2
      go_ret
      have ho := hI.out.1
      rw [List.take_of_length_le (by rw [H.out.1.1]; exact Nat.le_refl _)] at ho
      rw [List.take_of_length_le (by rw [H.out.1.2.1]; exact Nat.le_refl _)] at hq
      exact ⟨_, _, _, rfl, ho, hI.out.2, hq⟩
set_option maxHeartbeats 400000 in
theorem coprime5_any {v u : Value} {x y L M K : Nat} {w : World} (h : Num w v x L) (h' : Num w u y M) (hLK : L ≤ K) (hMK : M ≤ K) (hK1 : 1 ≤ K) (hK : K ≤ 17179869184) :
    Calls Tryz.prog 80 #[v, u] w (Keeps (.bool (decide (Nat.gcd x y = 1))) w) := by
  have C := Lib.hid (gcd5_any (w := w) h h' hLK hMK hK1 hK)
  obtain ⟨_, _, _, _, rfl, _⟩ := id h
  obtain ⟨_, _, _, _, rfl, _⟩ := id h'
  have HD : decide (dg W (Nat.gcd x y) = dg W 1) = decide (Nat.gcd x y = 1) := by
    rw [Bool.eq_iff_iff, decide_eq_true_iff, decide_eq_true_iff]
    exact ⟨fun e2 => by have := congrArg (val W) e2; rwa [dg_val W_gt, dg_val W_gt] at this, fun e => by rw [e]⟩
  clear h h'
  go_enter Tryz.func80, Tryz.ntmps80
  go_wp2_with fail
  refine (C.out).mono ?_
  rintro e w1 ⟨A_g, n_g, c_g, rfl, o_g, hb1, l_g⟩
  go_wp2_with fail
  refine (word5_any (x := 1) rfl (by omega)).mono ?_
  rintro e w2 ⟨A_o, n_o, c_o, rfl, o_o, hb2, l_o⟩
  have CS := Lib.hid (same5q_any (o_g.rd.below hb2) o_o.rd (by omega))
  rw [HD] at CS
  generalize decide (Nat.gcd x y = 1) = bb at *
  go_wp2_with fail
  refine CS.out.mono ?_
  rintro e ws ⟨rfl, qs, rfl⟩
  go_wp2
  go_ret
  exact ⟨rfl, bt (bt hb1 hb2) (below_drewN _ _)⟩
end Go.Proofs.YtphofjinncbaaaaGreat
namespace Go.Proofs.YtphofjinncbaaaaGreat
open Go.RowKit
set_option linter.unusedVariables false

/-- the n-th root, rounded down -/
def nroot (n : Nat) : Nat → Nat
  | 0 => 0
  | a + 1 => if (nroot n a + 1) ^ n ≤ a + 1 then nroot n a + 1 else nroot n a
theorem nroot_spec {n : Nat} (hn : 1 ≤ n) (a : Nat) : nroot n a ^ n ≤ a ∧ a < (nroot n a + 1) ^ n := by
  induction a with
  | zero => exact ⟨by rw [nroot, Nat.zero_pow (by omega)]; exact Nat.le_refl _, by rw [nroot]; simp⟩
  | succ a ih =>
    obtain ⟨h1, h2⟩ := ih
    rw [nroot]
    split
    · rename_i h
      exact ⟨h, Nat.lt_of_le_of_lt (show a + 1 ≤ (nroot n a + 1) ^ n from h2) (Nat.pow_lt_pow_left (by omega) (by omega))⟩
    · rename_i h
      exact ⟨by omega, by omega⟩
theorem nroot_uniq {n a s : Nat} (hn : 1 ≤ n) (h1 : s ^ n ≤ a) (h2 : a < (s + 1) ^ n) : nroot n a = s := by
  obtain ⟨g1, g2⟩ := nroot_spec hn a
  rcases Nat.lt_trichotomy s (nroot n a) with h | h | h
  · have := Nat.pow_le_pow_left (show s + 1 ≤ nroot n a from h) n
    omega
  · exact h.symm
  · have := Nat.pow_le_pow_left (show nroot n a + 1 ≤ s from h) n
    omega
theorem nroot_zero {n : Nat} : nroot n 0 = 0 := rfl
theorem nroot_one {a : Nat} : nroot 1 a = a := nroot_uniq (Nat.le_refl _) (by simp) (by simp)
theorem nroot_big {n a : Nat} (hn : 1 ≤ n) (h0 : 0 < a) (h : nb a ≤ n) : nroot n a = 1 := by
  refine nroot_uniq hn (by rw [Nat.one_pow]; exact h0) ?_
  have h1 := nb_lt a
  exact Nat.lt_of_lt_of_le h1 (Nat.pow_le_pow_right (by omega) h)
theorem nroot_le {n a : Nat} (hn : 1 ≤ n) : nroot n a ≤ a := by
  obtain ⟨g1, g2⟩ := nroot_spec hn a
  rcases Nat.eq_zero_or_pos (nroot n a) with h | h
  · omega
  · have : nroot n a ^ 1 ≤ nroot n a ^ n := Nat.pow_le_pow_right h hn
    rw [Nat.pow_one] at this
    omega
/-- bit by bit: the bits from j on are found -/
def RtI (n a q s j : Nat) : Prop := s ^ n ≤ a ∧ a < (s + 2 ^ j) ^ n ∧ s + 2 ^ j ≤ 2 ^ (q + 1)
theorem RtI.start {n a : Nat} (hn : 1 ≤ n) : RtI n a (nb a / n) 0 (nb a / n + 1) := by
  refine ⟨by rw [Nat.zero_pow (by omega)]; exact Nat.zero_le _, ?_, by omega⟩
  rw [Nat.zero_add, ← Nat.pow_mul]
  refine Nat.lt_of_lt_of_le (nb_lt a) (Nat.pow_le_pow_right (by omega) ?_)
  have := Nat.lt_div_mul_add (a := nb a) (b := n) (by omega)
  rw [Nat.add_mul, Nat.one_mul]
  omega
theorem RtI.up {n a q s j : Nat} (h : RtI n a q s (j + 1)) (hle : (s + 2 ^ j) ^ n ≤ a) : RtI n a q (s + 2 ^ j) j := by
  obtain ⟨h1, h2, h3⟩ := h
  rw [Nat.pow_succ] at h2 h3
  have e : s + 2 ^ j + 2 ^ j = s + 2 ^ j * 2 := by omega
  exact ⟨hle, by rw [e]; exact h2, by rw [e]; exact h3⟩
theorem RtI.stay {n a q s j : Nat} (h : RtI n a q s (j + 1)) (hgt : a < (s + 2 ^ j) ^ n) : RtI n a q s j := by
  obtain ⟨h1, h2, h3⟩ := h
  rw [Nat.pow_succ] at h3
  exact ⟨h1, hgt, by have := Nat.pow_pos (n := j) (show 0 < 2 by omega); omega⟩
theorem RtI.done {n a q s : Nat} (h : RtI n a q s 0) (hn : 1 ≤ n) : s = nroot n a := by
  obtain ⟨h1, h2, h3⟩ := h
  exact (nroot_uniq hn h1 (by simpa using h2)).symm
theorem RtI.next_lt {n a q s j : Nat} (h : RtI n a q s (j + 1)) : s + 2 ^ j < 2 ^ (q + 1) := by
  obtain ⟨h1, h2, h3⟩ := h
  rw [Nat.pow_succ] at h3
  have := Nat.pow_pos (n := j) (show 0 < 2 by omega)
  omega
theorem two_W {x q : Nat} (h : x < 2 ^ (q + 1)) : x < W ^ (q / 64 + 1) := by
  refine Nat.lt_of_lt_of_le h ?_
  rw [show W = 2 ^ 64 from rfl, ← Nat.pow_mul]
  exact Nat.pow_le_pow_right (by omega) (by omega)
/-- so many words take the powers -/
theorem root_len {L n b : Nat} (hn : 1 ≤ n) (hb : b ≤ 64 * L) (hnb : n < b) : (b / n / 64 + 2) * n ≤ 129 * L := by
  have h1 : b / n / 64 * n ≤ L := by
    have h2 : b / n / 64 * 64 ≤ b / n := Nat.div_mul_le_self _ _
    have h3 : b / n * n ≤ b := Nat.div_mul_le_self _ _
    have h4 : b / n / 64 * 64 * n ≤ b / n * n := Nat.mul_le_mul_right _ h2
    rw [Nat.mul_assoc, Nat.mul_comm 64 n, ← Nat.mul_assoc] at h4
    omega
  rw [Nat.add_mul]
  omega
theorem nb_W {x L : Nat} (h : x < W ^ L) : nb x ≤ 64 * L := by
  rcases Nat.eq_zero_or_pos x with h0 | h0
  · subst h0; rw [nb_zero]; exact Nat.zero_le _
  · obtain ⟨h1, h2⟩ := nb_le h0
    rw [show W = 2 ^ 64 from rfl, ← Nat.pow_mul] at h
    have := (Nat.pow_lt_pow_iff_right (show 1 < 2 by omega)).1 (Nat.lt_of_le_of_lt h1 h)
    omega

theorem val_top (n p : Nat) : val W ((List.replicate (n + 1) 0).set n p) = W ^ n * p := by
  have e : (List.replicate (n + 1) 0).set n p = List.replicate n 0 ++ [p] := by
    rw [List.replicate_succ', List.set_append_right _ _ (by simp)]
    simp
  rw [e, val_append, val_replicate, List.length_replicate]
  simp [val]
set_option maxHeartbeats 1000000 in
theorem gtwo_any {i : Nat} {i' : Int} {w : World} (ei : i' = (i : Int)) (hi : i ≤ 4294967296) : Calls Tryz.prog 137 #[.int .i64 i'] w (GV w (2 ^ i) (i / 64 + 1)) := by
  subst ei
  have HE := Lib.hid elN
  have q1 := lay (show (i : Int) / 64 = ((i / 64 : Nat) : Int) by omega)
  have q2 := lay (show (i : Int) % 64 = ((i % 64 : Nat) : Int) by omega)
  have q3 := lay (show (i : Int).tmod 64 = ((i % 64 : Nat) : Int) by rw [Int.tmod_eq_emod_of_nonneg (by omega)]; omega)
  have q4 := lay (show (i : Int).tdiv 64 = ((i / 64 : Nat) : Int) by rw [Int.tdiv_eq_ediv_of_nonneg (by omega)]; omega)
  have hr : i % 64 < 64 := by omega
  have hws : i / 64 ≤ 67108864 := by omega
  have HV : Hid (val W ((List.replicate (i / 64 + 1) 0).set (i / 64) (2 ^ (i % 64))) = 2 ^ i) := by show _ = _; rw [val_top, two_split i, Nat.mul_comm]
  have hp : 2 ^ (i % 64) < W := Nat.pow_lt_pow_right (by omega) hr
  have HA : Hid (All W ((List.replicate (i / 64 + 1) 0).set (i / 64) (2 ^ (i % 64)))) := (All.replicate W_pos).set hp _
  have s1 := lay (show IntKind.u64.wrap ((2 : Int) ^ (i % 64)) = ((2 ^ (i % 64) : Nat) : Int) by
    have e1 : ((2 : Int) ^ (i % 64)) = ((2 ^ (i % 64) : Nat) : Int) := by rw [Int.natCast_pow]; rfl
    rw [e1]; exact wrapN _ (by rw [W_eq] at hp; exact hp))
  have s2 := lay (show IntKind.u64.wrap (1 * (2 : Int) ^ (i % 64)) = ((2 ^ (i % 64) : Nat) : Int) by
    have e1 : ((2 : Int) ^ (i % 64)) = ((2 ^ (i % 64) : Nat) : Int) := by rw [Int.natCast_pow]; rfl
    rw [Int.one_mul, e1]; exact wrapN _ (by rw [W_eq] at hp; exact hp))
  clear hp
  generalize i / 64 = ws at *
  generalize i % 64 = r at *
  generalize 2 ^ i = X at *
  go_enter Tryz.func137, Tryz.ntmps137
  have i0 : (0 : Int) ≤ (ws : Int) := by omega
  have i1 : (ws : Int) < (ws : Int) + 1 := by omega
  go_wp2_with (at_make; refine wpList_mk rfl (.tmp 6) (.tmp 6) rfl HE.out w.heap.size (ws + 1) rfl rfl (by push_cast; rfl) (by push_cast; rfl) (by omega) (Nat.le_refl _) ?_; intro w2 ho2 hg2 hb2; have hfr := ho2.frozen (i := ws); have hcs := ho2.cell (i := ws) (by omega); generalize nth (List.replicate (ws + 1) 0) ws = old at hcs; have HO := Lib.hid (And.intro (ho2.stored (i := ws) (x := 2 ^ r)) (hb2.setCell (p := ⟨w.heap.size, ws, none⟩) (Nat.le_refl _) (.int .u64 ((2 ^ r : Nat) : Int)))); clear ho2 hb2 hg2)
  go_ret
  exact ⟨_, _, _, _, rfl, HO.out.1, HA.out, HV.out, HO.out.2, Nat.le_refl _⟩

theorem and_one64 (i : Nat) (hi : i < 9223372036854775808) : bits BinOp.and IntKind.i64 (i : Int) 1 = ((i % 2 : Nat) : Int) := by
  have t63 : (2 : Int) ^ 63 = 9223372036854775808 := by decide
  have h := bits_mask .i64 63 (by decide) (fun n h0 h1 => by rw [t63] at h1; rw [IntKind.wrap_i64]; omega) 1 (by decide) (i : Int) (by omega) (by rw [t63]; omega)
  have e : ((2 : Int) ^ 1 - 1) = 1 := by decide
  rw [e] at h
  rw [h]
  omega
set_option maxHeartbeats 2000000 in
theorem gpower_any {v : Value} {x L N : Nat} {n' : Int} {w : World} (h : Num w v x L) (hn' : n' = (N : Int)) (hN1 : 1 ≤ N) (hN : N ≤ 4294967296) (hLN : L * N ≤ 34359738368) :
    Calls Tryz.prog 139 #[v, .int .i64 n'] w (GN w (x ^ N) (L * N + 1)) := by
  subst hn'
  have H := Lib.hid h
  have HX := Lib.hid h.lt
  have HLN := Lib.hid hLN
  have HLL : Hid (L ≤ L * N + 1) := by
    show _ ≤ _
    have := Nat.mul_le_mul_left L hN1
    omega
  have h1W : Hid (1 < W) := W_gt
  obtain ⟨A0, n0, c0, xs0, rfl, _⟩ := id h
  clear h hLN
  go_enter Tryz.func139, Tryz.ntmps139
  go_wp2_with fail
  refine (nof_any rfl h1W.out).mono ?_
  rintro e w1 ⟨A_o, n_o, c_o, rfl, o_o, hb1, l_o⟩
  go_wp2
  have HO : Hid (PowI N N 0 1 ∧ Own .u64 81 w.heap.size w1 A_o n_o c_o (dg W (x ^ 0)) ∧ (∃ l, l ≤ L * N + 1 ∧ Num w1 (.slice A0 n0 c0) (x ^ 1) l) ∧ Below w.heap.size w w1) := by
    exact ⟨PowI.start N, by rw [Nat.pow_zero]; exact o_o, ⟨L, HLL.out, by rw [Nat.pow_one]; exact (H.out.below hb1)⟩, hb1⟩
  clear o_o hb1 l_o
  go_loopw [0, 1, 5] (fun bv nv ov wr => ∃ (m a b : Nat) (A1 : Option Addr) (n1 c1 : Nat) (A2 : Option Addr) (n2 c2 : Nat), Hid (PowI N m a b ∧ Own .u64 81 w.heap.size wr A1 n1 c1 (dg W (x ^ a)) ∧ (∃ l, l ≤ L * N + 1 ∧ Num wr (.slice A2 n2 c2) (x ^ b) l) ∧ Below w.heap.size w wr) ∧ m ≤ N ∧ nv = .int .i64 m ∧ ov = .slice A1 n1 c1 ∧ bv = .slice A2 n2 c2) (fun _ nv _ _ => (intOf nv).toNat)
  case atStart => exact ⟨N, 0, 1, _, _, _, _, _, _, HO, Nat.le_refl _, rfl, rfl, rfl⟩
  case round =>
    obtain ⟨m, a, b, A1, n1, c1, A2, n2, c2, hI, hm, rfl, rfl, rfl⟩ := hrel
    have la : Hid (n1 ≤ L * N + 1) := by
      show _ ≤ _
      rw [← hI.out.2.1.len]; exact pow_len HX.out hI.out.1.2.2 rfl
    by_cases h0 : 0 < m
    · obtain ⟨lb0, hlb0, hNb0⟩ := hI.out.2.2.1
      have hNb := Lib.hid (hNb0.mono hlb0)
      clear hlb0 hNb0
      have b1 := lay (show bits BinOp.and IntKind.i64 (m : Int) 1 = (m : Int) % 2 by rw [and_one64 m (by omega)]; omega)
      obtain ⟨mh, hmh⟩ : ∃ mh, mh = m / 2 := ⟨_, rfl⟩
      have b2 := lay (show (m : Int) / 2 = (mh : Int) by omega)
      have HMH := Lib.hid hmh
      have hmh2 : mh < m := by omega
      clear hmh
      by_cases h1 : m % 2 = 1
      · have q1 : ((m : Int) % 2 == 1) = true := by rw [beq_iff_eq]; omega
        have H1 := Lib.hid h1
        clear h1
        by_cases hm1 : m = 1
        · have HM1 := Lib.hid hm1
          have hm3 : m ≤ 1 := by omega
          clear hm1
          go_wp2_with fail
          refine (mul_any (hI.out.2.1.num la.out) hNb.out (by have := HLN.out; omega) (by have := HLN.out; omega)).mono ?_
          rintro e w4 ⟨A3, n3, c3, rfl, ho3, hb3, hl3⟩
          go_wp2
          go_roundw
          case rel =>
            refine ⟨mh, a + b, b, _, _, _, _, _, _, ⟨by have := hI.out.1; rw [HM1.out] at this; rw [HMH.out, HM1.out]; exact this.last, ?_, ⟨_, Nat.le_refl _, hNb.out.below hb3⟩, bt hI.out.2.2.2 hb3⟩, by omega, by go_num, rfl, rfl⟩
            rw [Nat.pow_add]
            exact ho3.mono hI.out.2.2.2.size
          case measure => simp [intOf]; omega
        · have hm2 : 1 < m := by omega
          clear hm1
          go_wp2_with fail
          refine (mul_any (hI.out.2.1.num la.out) hNb.out (by have := HLN.out; omega) (by have := HLN.out; omega)).mono ?_
          rintro e w4 ⟨A3, n3, c3, rfl, ho3, hb3, hl3⟩
          go_wp2_with fail
          refine (square_any (hNb.out.below hb3) (by have := HLN.out; omega)).mono ?_
          rintro e w5 ⟨A4, n4, c4, rfl, ho4, hb4, hl4⟩
          go_wp2
          go_roundw
          case rel =>
            have hp := (hI.out.1.odd1 H1.out).resolve_right (by omega)
            refine ⟨mh, a + b, b + b, _, _, _, _, _, _, ⟨by rw [HMH.out]; exact hp, ?_, ⟨n4, ?_, ?_⟩, bt (bt hI.out.2.2.2 hb3) hb4⟩, by omega, by go_num, rfl, rfl⟩
            · rw [Nat.pow_add]
              exact (ho3.mono hI.out.2.2.2.size).below hb4
            · rw [← ho4.len, ← Nat.pow_add]; exact pow_len HX.out (by have := hp.2.1; omega) rfl
            · rw [Nat.pow_add]
              exact ho4.num (Nat.le_refl _)
          case measure => simp [intOf]; omega
      · have q1 : ((m : Int) % 2 == 1) = false := by rw [beq_eq_false_iff_ne]; omega
        have H1 : Hid (m % 2 = 0) := by show _ = _; omega
        have hm2 : 1 < m := by omega
        clear h1
        go_wp2_with fail
        refine (square_any hNb.out (by have := HLN.out; omega)).mono ?_
        rintro e w5 ⟨A4, n4, c4, rfl, ho4, hb4, hl4⟩
        go_wp2
        go_roundw
        case rel =>
          have hp := hI.out.1.even H1.out h0
          refine ⟨mh, a, b + b, _, _, _, _, _, _, ⟨by rw [HMH.out]; exact hp, hI.out.2.1.below hb4, ⟨n4, ?_, ?_⟩, bt hI.out.2.2.2 hb4⟩, by omega, by go_num, rfl, rfl⟩
          · rw [← ho4.len, ← Nat.pow_add]; exact pow_len HX.out (by have := hp.2.1; omega) rfl
          · rw [Nat.pow_add]
            exact ho4.num (Nat.le_refl _)
        case measure => simp [intOf]; omega
    · obtain rfl : m = 0 := by omega
      have e : x ^ a = x ^ N := by have := hI.out.1.1; rw [show a = N by omega]
      go_wp2
      go_ret
      rw [← e]
      exact ⟨_, _, _, rfl, hI.out.2.1, hI.out.2.2.2, la.out⟩

def GRt (w : World) (n a L : Nat) (e : Ending) (w' : World) : Prop :=
  ∃ A m c, e = .returned (.tuple #[.slice A m c, .bool (decide (nroot n a ^ n = a)), .int .i64 0]) ∧ Own .u64 81 w.heap.size w' A m c (dg W (nroot n a)) ∧ Below w.heap.size w w' ∧ m ≤ L
theorem groot_bad {v : Value} {z : Int} {w : World} (hz : z < 1) : Calls Tryz.prog 83 #[v, .int .i64 z] w (Keeps (.tuple #[.slice none 0 0, .bool false, .int .i64 3]) w) := by
  have d1 : decide (z < 1) = true := by simpa using hz
  go_enter Tryz.func83, Tryz.ntmps83
  go_wp2
  go_ret3
  exact ⟨rfl, Below.refl _ _⟩
theorem groot_zero {v : Value} {x L N : Nat} {w : World} (h : Num w v x L) (hN : 1 ≤ N) (hx : x = 0) (hL : L ≤ 67108864) : Calls Tryz.prog 83 #[v, .int .i64 (N : Int)] w (GRt w N x L) := by
  have C := Lib.hid (nbits_any (w := w) h (by omega))
  obtain ⟨_, _, _, _, rfl, _⟩ := id h
  have hb : nb x = 0 := by rw [hx, nb_zero]
  rw [hb] at C
  have d1 : decide ((N : Int) < 1) = false := by simp; omega
  have HR : Hid (nroot N x = 0 ∧ decide (nroot N x ^ N = x) = true) := by
    subst hx
    exact ⟨nroot_zero, by rw [nroot_zero, Nat.zero_pow (by omega)]; rfl⟩
  clear h hb
  go_enter Tryz.func83, Tryz.ntmps83
  go_wp2_with fail
  refine C.out.mono ?_
  rintro e w' ⟨rfl, rfl⟩
  go_wp2
  go_ret3
  exact ⟨_, _, _, by rw [HR.out.2]; rfl, by rw [HR.out.1]; exact Own.nildg, Below.refl _ _, Nat.zero_le _⟩
theorem groot_one {v : Value} {x L : Nat} {w : World} (h : Num w v x L) (hx : 0 < x) (hL : L ≤ 67108864) : Calls Tryz.prog 83 #[v, .int .i64 1] w (GRt w 1 x L) := by
  have H := Lib.hid h
  obtain ⟨_, _, _, _, rfl, _⟩ := id h
  have q1 : ((nb x : Int) == 0) = false := by rw [beq_eq_false_iff_ne]; have := nb_pos hx; omega
  have HR : Hid (nroot 1 x = x ∧ decide (nroot 1 x ^ 1 = x) = true) := ⟨nroot_one, by rw [nroot_one, Nat.pow_one]; simp⟩
  have C := Lib.hid (nbits_any (w := w) h (by omega))
  generalize nb x = b at *
  clear h hx
  go_enter Tryz.func83, Tryz.ntmps83
  go_wp2_with fail
  refine (C.out).mono ?_
  rintro e w' ⟨rfl, rfl⟩
  go_wp2_with fail
  refine (nnorm_any H.out (by omega)).mono ?_
  rintro e w2 ⟨A_r, n_r, c_r, rfl, o_r, hb2, l_r⟩
  go_wp2
  go_ret3
  exact ⟨_, _, _, by rw [HR.out.2]; rfl, by rw [HR.out.1]; exact o_r, hb2, by omega⟩
theorem groot_few {v : Value} {x L N : Nat} {w : World} (h : Num w v x L) (hx : 0 < x) (hN : 2 ≤ N) (hb : nb x ≤ N) (hL : L ≤ 67108864) : Calls Tryz.prog 83 #[v, .int .i64 (N : Int)] w (GRt w N x L) := by
  obtain ⟨_, _, _, _, rfl, _⟩ := id h
  have q1 : ((nb x : Int) == 0) = false := by rw [beq_eq_false_iff_ne]; have := nb_pos hx; omega
  have q2 : ((N : Int) == 1) = false := by rw [beq_eq_false_iff_ne]; omega
  have d1 : decide ((N : Int) < 1) = false := by simp; omega
  have d2 : decide ((nb x : Int) ≤ (N : Int)) = true := by simp; exact hb
  have d2b : decide (nb x ≤ N) = true := by simp; exact hb
  have HR : Hid (nroot N x = 1 ∧ ((nb x : Int) == 1) = decide (nroot N x ^ N = x)) := by
    have e := nroot_big (by omega) hx hb
    refine ⟨e, ?_⟩
    rw [e, Nat.one_pow]
    rcases (show x = 1 ∨ 2 ≤ x by omega) with h1 | h1
    · rw [h1, nb_one]; rfl
    · have := nb_two h1
      rw [decide_eq_false (by omega), beq_eq_false_iff_ne]
      omega
  have C := Lib.hid (nbits_any (w := w) h (by omega))
  have h1W : Hid (1 < W) := W_gt
  have hL1 : Hid (1 ≤ L) := by
    show _ ≤ _
    have := h.lt
    rcases Nat.eq_zero_or_pos L with h0 | h0
    · rw [h0, Nat.pow_zero] at this; omega
    · exact h0
  generalize nb x = b at *
  clear h hx hb
  go_enter Tryz.func83, Tryz.ntmps83
  go_wp2_with fail
  refine (C.out).mono ?_
  rintro e w' ⟨rfl, rfl⟩
  go_wp2_with fail
  refine (nof_any rfl h1W.out).mono ?_
  rintro e w2 ⟨A_r, n_r, c_r, rfl, o_r, hb2, l_r⟩
  go_wp2
  go_ret3
  exact ⟨_, _, _, by rw [HR.out.2]; rfl, by rw [HR.out.1]; exact o_r, hb2, by have := hL1.out; omega⟩

set_option maxHeartbeats 2000000 in
theorem groot_in {v : Value} {x L N : Nat} {w : World} (h : Num w v x L) (hx : 0 < x) (hN : 2 ≤ N) (hb : N < nb x) (hL : L ≤ 67108864) : Calls Tryz.prog 83 #[v, .int .i64 (N : Int)] w (GRt w N x L) := by
  have H := Lib.hid h
  have hbL : nb x ≤ 64 * L := nb_W h.lt
  have HLen := Lib.hid (root_len (by omega) hbL hb)
  have HLT := Lib.hid h.lt
  have C := Lib.hid (nbits_any (w := w) h (by omega))
  obtain ⟨_, _, _, _, rfl, _⟩ := id h
  have q1 : ((nb x : Int) == 0) = false := by rw [beq_eq_false_iff_ne]; have := nb_pos hx; omega
  have q2 : ((N : Int) == 1) = false := by rw [beq_eq_false_iff_ne]; omega
  have q3 : ((N : Int) == 0) = false := by rw [beq_eq_false_iff_ne]; omega
  have d1 : decide ((N : Int) < 1) = false := by simp; omega
  have d2 : decide ((nb x : Int) ≤ (N : Int)) = false := by simp; omega
  have d2b : decide (nb x ≤ N) = false := by simp; omega
  have HS := Lib.hid (RtI.start (n := N) (a := x) (by omega))
  have hq : nb x / N ≤ nb x := Nat.div_le_self _ _
  have e1 := lay (show (nb x : Int) / (N : Int) = ((nb x / N : Nat) : Int) by rw [Int.natCast_ediv])
  have e2 := lay (show (nb x : Int).tdiv (N : Int) = ((nb x / N : Nat) : Int) by rw [Int.tdiv_eq_ediv_of_nonneg (by omega), Int.natCast_ediv])
  have nz : (N : Int) ≠ 0 := by omega
  have nz3 : ¬ N = 0 := by omega
  have HX0 := Lib.hid hx
  generalize nb x / N = q at *
  generalize nb x = b at *
  clear h hx
  go_enter Tryz.func83, Tryz.ntmps83
  go_wp2_with fail
  refine C.out.mono ?_
  rintro e w' ⟨rfl, rfl⟩
  go_wp2
  go_loopw [8, 9, 10] (fun sv ev iv wr => ∃ (j s : Nat) (A : Option Addr) (m c : Nat) (ex : Bool), Hid (RtI N x q s j ∧ Own .u64 81 w.heap.size wr A m c (dg W s) ∧ Below w.heap.size w wr ∧ ex = decide (s ^ N = x)) ∧ j ≤ q + 1 ∧ sv = .slice A m c ∧ ev = .bool ex ∧ iv = .int .i64 ((j : Int) - 1)) (fun _ _ iv _ => (intOf iv + 1).toNat)
  case atStart =>
    refine ⟨q + 1, 0, _, _, _, false, ⟨HS.out, Own.nildg, Below.refl _ _, ?_⟩, Nat.le_refl _, rfl, rfl, by go_num⟩
    rw [Nat.zero_pow (by omega), decide_eq_false (by have := HX0.out; omega)]
  case round =>
    obtain ⟨j, s, A, m, c, ex, hI, hj, rfl, rfl, rfl⟩ := hrel
    by_cases h0 : j = 0
    · subst h0
      have HF := Lib.hid (hI.out.1.done (by omega))
      have d3 : decide ((0 : Int) ≤ ((0 : Nat) : Int) - 1) = false := by simp
      have lm : Hid (m ≤ L) := by
        show _ ≤ _
        rw [← hI.out.2.1.len, HF.out]
        exact dgl (Nat.lt_of_le_of_lt (nroot_le (by omega)) HLT.out)
      go_wp2
      go_ret3
      have ho := hI.out.2.1
      rw [HF.out] at ho
      refine ⟨_, _, _, ?_, ho, hI.out.2.2.1, lm.out⟩
      rw [hI.out.2.2.2, HF.out]
      rfl
    · obtain ⟨k, rfl⟩ : ∃ k, j = k + 1 := ⟨j - 1, by omega⟩
      have ei : ((k + 1 : Nat) : Int) - 1 = (k : Int) := by omega
      rw [ei]
      have d3 : decide ((0 : Int) ≤ (k : Int)) = true := by simp
      have HTL := Lib.hid (two_W hI.out.1.next_lt)
      have lm : m ≤ L := by
        rw [← hI.out.2.1.len]
        refine dgl (Nat.lt_of_le_of_lt ?_ HLT.out)
        have h1 := hI.out.1.1
        rcases Nat.eq_zero_or_pos s with h2 | h2
        · omega
        · have : s ^ 1 ≤ s ^ N := Nat.pow_le_pow_right h2 (by omega)
          rw [Nat.pow_one] at this
          omega
      clear h0 ei
      obtain ⟨wo, rfl⟩ : ∃ wo : World, wo = wr := ⟨_, rfl⟩
      go_wp2_with fail
      refine (gtwo_any (i := k) rfl (by omega)).mono ?_
      rintro e w1 ⟨A_t, n_t, c_t, xs_t, rfl, o_t, a_t, v_t, hb1, l_t⟩
      have V_t := Lib.hid v_t
      clear v_t
      go_wp2_with fail
      refine (nadd_any ((hI.out.2.1.num lm).below hb1) (o_t.numv a_t V_t.out l_t) (by omega) (by omega)).mono ?_
      rintro e w2 ⟨A_u, n_u, c_u, rfl, o_u, hb2, l_u⟩
      have lu : Hid (n_u ≤ q / 64 + 2) := by show _ ≤ _; rw [← o_u.len]; have := dgl HTL.out; omega
      go_wp2_with fail
      refine (gpower_any (o_u.num (L := q / 64 + 2) lu.out) rfl (by omega) (by omega) (by have := HLen.out; omega)).mono ?_
      rintro e w3 ⟨A_p, n_p, c_p, rfl, o_p, hb3, l_p⟩
      have CC := Lib.hid (ncmp_any (w := w3) (o_p.num l_p) ((((H.out.below hI.out.2.2.1).below hb1).below hb2).below hb3) (by have := HLen.out; omega) (by omega))
      have HU := Lib.hid (And.intro (((o_u.mono hb1.size).below hb3).mono hI.out.2.2.1.size) (bt hI.out.2.2.1 (bt (bt hb1 hb2) hb3)))
      have HK := Lib.hid (And.intro (hI.out.2.1.below (bt (bt hb1 hb2) hb3)) (bt hI.out.2.2.1 (bt (bt hb1 hb2) hb3)))
      rcases Nat.lt_trichotomy ((s + 2 ^ k) ^ N) x with hc | hc | hc
      · have ec : cmpN ((s + 2 ^ k) ^ N) x = -1 := by rw [cmpN, if_pos hc]
        rw [ec] at CC
        have HNEW : Hid (RtI N x q (s + 2 ^ k) k ∧ Own .u64 81 w.heap.size _ A_u n_u c_u (dg W (s + 2 ^ k)) ∧ Below w.heap.size w _ ∧ ex = decide ((s + 2 ^ k) ^ N = x)) := ⟨hI.out.1.up (Nat.le_of_lt hc), HU.out.1, HU.out.2, by
          rw [hI.out.2.2.2, decide_eq_false (Nat.ne_of_lt hc), decide_eq_false]
          have : s ^ N ≤ (s + 2 ^ k) ^ N := Nat.pow_le_pow_left (Nat.le_add_right _ _) _
          omega⟩
        clear hc ec
        go_wp2_with fail
        refine CC.out.mono ?_
        rintro e w' ⟨rfl, rfl⟩
        go_wp2
        go_roundw
        case rel => exact ⟨k, _, _, _, _, _, HNEW, by omega, rfl, rfl, rfl⟩
        case measure => simp [intOf]
      · have ec : cmpN ((s + 2 ^ k) ^ N) x = 0 := by rw [cmpN, if_neg (by omega), if_neg (by omega)]
        rw [ec] at CC
        have HNEW : Hid (RtI N x q (s + 2 ^ k) k ∧ Own .u64 81 w.heap.size _ A_u n_u c_u (dg W (s + 2 ^ k)) ∧ Below w.heap.size w _ ∧ true = decide ((s + 2 ^ k) ^ N = x)) := ⟨hI.out.1.up (Nat.le_of_eq hc), HU.out.1, HU.out.2, by rw [decide_eq_true hc]⟩
        clear hc ec
        go_wp2_with fail
        refine CC.out.mono ?_
        rintro e w' ⟨rfl, rfl⟩
        go_wp2
        go_roundw
        case rel => exact ⟨k, _, _, _, _, _, HNEW, by omega, rfl, rfl, rfl⟩
        case measure => simp [intOf]
      · have ec : cmpN ((s + 2 ^ k) ^ N) x = 1 := by rw [cmpN, if_neg (by omega), if_pos hc]
        rw [ec] at CC
        have HNEW : Hid (RtI N x q s k ∧ Own .u64 81 w.heap.size _ A m c (dg W s) ∧ Below w.heap.size w _ ∧ ex = decide (s ^ N = x)) := ⟨hI.out.1.stay hc, HK.out.1, HK.out.2, hI.out.2.2.2⟩
        clear hc ec
        go_wp2_with fail
        refine CC.out.mono ?_
        rintro e w' ⟨rfl, rfl⟩
        go_wp2
        go_roundw
        case rel => exact ⟨k, _, _, _, _, _, HNEW, by omega, rfl, rfl, rfl⟩
        case measure => simp [intOf]
theorem groot_any {v : Value} {x L N : Nat} {n' : Int} {w : World} (h : Num w v x L) (en : n' = (N : Int)) (hN : 1 ≤ N) (hL : L ≤ 67108864) : Calls Tryz.prog 83 #[v, .int .i64 n'] w (GRt w N x L) := by
  subst en
  rcases Nat.eq_zero_or_pos x with hx | hx
  · exact groot_zero h hN hx hL
  · rcases (show N = 1 ∨ 2 ≤ N by omega) with h1 | h1
    · subst h1; exact groot_one h hx hL
    · rcases Nat.lt_or_ge N (nb x) with h2 | h2
      · exact groot_in h hx h1 h2 hL
      · exact groot_few h hx h1 h2 hL
theorem gsqrt_any {v : Value} {x L : Nat} {w : World} (h : Num w v x L) (hL : L ≤ 67108864) : Calls Tryz.prog 65 #[v] w (GN2 w (nroot 2 x) L (x - nroot 2 x * nroot 2 x) L) := by
  have C := Lib.hid (groot_any (N := 2) (n' := 2) h rfl (by omega) hL)
  have HLE : Hid (nroot 2 x * nroot 2 x ≤ x) := by
    show _ ≤ _
    have := (nroot_spec (n := 2) (by omega) x).1
    rwa [Nat.pow_two] at this
  have H := Lib.hid h
  obtain ⟨_, _, _, _, rfl, _⟩ := id h
  clear h
  go_enter Tryz.func65, Tryz.ntmps65
  go_wp2_with fail
  refine C.out.mono ?_
  rintro e ws ⟨A_s, n_s, c_s, rfl, o_s, hbs, l_s⟩
  go_wp2_with fail
  refine (square_any (o_s.num l_s) (by omega)).mono ?_
  rintro e w1 ⟨A_p, n_p, c_p, rfl, o_p, hb1, l_p⟩
  go_wp2_with fail
  refine (gsub_any ((H.out.below hbs).below hb1) (o_p.num l_p) HLE.out (by omega) (by omega)).mono ?_
  rintro e w2 ⟨A_r, n_r, c_r, rfl, o_r, hb2, l_r⟩
  go_wp2
  go_ret2
  exact ⟨_, _, _, _, _, _, rfl, ((o_s.below hb1).below hb2), (o_r.mono (bt hbs hb1).size), (bt (bt hbs hb1) hb2), by omega, by omega⟩
end Go.Proofs.YtphofjinncbaaaaGreat
