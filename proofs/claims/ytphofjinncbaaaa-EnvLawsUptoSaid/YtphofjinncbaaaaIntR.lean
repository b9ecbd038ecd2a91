/-
  The document's tools of arithmetic (surdref05): Zero, Bits. Integers: sign and size. What a call gives that answers an integer in its own form. The document's tools (surdref05): Cmp, Minus, I, Z, Neg, Add, Sub, Mul, Exact, SameInt. The document's divisors (surdref05): Gcd, All, Lcm, AllLcm, Coprime; gcd.AllLcm. The n-th root, rounded down, in plain Lean. Walks: gcd.two, power, Root, Sqrt.
-/
import Derived.Test.YtphofjinncbaaaaRef5X
import Derived.Test.YtphofjinncbaaaaDigQ
import Derived.Test.YtphofjinncbaaaaGcd
import Derived.Test.YtphofjinncbaaaaGcdD
import Derived.Test.YtphofjinncbaaaaPowX
import Derived.Test.YtphofjinncbaaaaNatB
namespace Go.Proofs.Ytphofjinncbaaaa
open Go.RowKit
set_option linter.unusedVariables false
end Go.Proofs.Ytphofjinncbaaaa
namespace Go.Proofs.Ytphofjinncbaaaa
open Go.RowKit
set_option linter.unusedVariables false

/-- the integer of a sign and a size -/
def sg (s : Bool) (x : Nat) : Int := if s = true then -(x : Int) else (x : Int)
theorem sg_false (x : Nat) : sg false x = (x : Int) := rfl
theorem sg_true (x : Nat) : sg true x = -(x : Int) := rfl
theorem sg_of {s : Bool} {z : Int} (h : s = decide (z < 0)) : sg s z.natAbs = z := by
  subst h
  unfold sg
  split
  · rename_i h; have : z < 0 := by simpa using h
    omega
  · rename_i h; have : ¬ z < 0 := by simpa using h
    omega
theorem sg_abs (s : Bool) (x : Nat) : (sg s x).natAbs = x := by unfold sg; split <;> simp
theorem sg_neg (s : Bool) (x : Nat) : decide (sg s x < 0) = (s && decide (0 < x)) := by
  unfold sg
  cases s
  · simp
  · simp
theorem sg_not (s : Bool) (x : Nat) : sg (!s) x = -sg s x := by unfold sg; cases s <;> simp
/-- a new integer in its own form -/
def GI (w : World) (z : Int) (L : Nat) (e : Ending) (w' : World) : Prop :=
  ∃ A n c s, e = .returned (.agg #[.bool s, .slice A n c]) ∧ Hid (s = decide (z < 0)) ∧ Own .u64 76 w.heap.size w' A n c (dg W z.natAbs) ∧ Below w.heap.size w w' ∧ n ≤ L
theorem GI.eq {w w' : World} {z z' : Int} {L : Nat} {e : Ending} (h : GI w z L e w') (hz : z = z') : GI w z' L e w' := hz ▸ h
theorem GI.mono {w w' : World} {z : Int} {L L' : Nat} {e : Ending} (h : GI w z L e w') (hL : L ≤ L') : GI w z L' e w' := by
  obtain ⟨A, n, c, s, h1, h2, h3, h4, h5⟩ := h
  exact ⟨A, n, c, s, h1, h2, h3, h4, by omega⟩
theorem Own.cells2 {k : IntKind} {t : TypeId} {B n c b : Nat} {w : World} {A : Option Addr} {xs : List Nat} {u1 u2 : Value} (h : Own k t B w A n c xs) (hp : b < B) : Own k t B ((w.setCell ⟨b, 0, none⟩ u1).setCell ⟨b, 1, none⟩ u2) A n c xs :=
  (h.set_low (p := ⟨b, 0, none⟩) hp u1).set_low (p := ⟨b, 1, none⟩) hp u2
theorem below_cells2 {B b : Nat} {w w' : World} {u1 u2 : Value} (h : Below B w w') (hb : B ≤ b) : Below B w ((w'.setCell ⟨b, 0, none⟩ u1).setCell ⟨b, 1, none⟩ u2) :=
  (h.setCell (p := ⟨b, 0, none⟩) hb u1).setCell (p := ⟨b, 1, none⟩) hb u2
theorem At.growS {w : World} {p : Addr} {v : Value} {b : Nat} (h : At w p v) (hne : p.block ≠ b) : ∀ w', Grow (some b) w.drew w' → w'.cell? p = some v := fun w' g => g.cell (p := p) (v := v) h.1 (by simpa using hne)
/-- the end of a walk that answers one integer -/
theorem gi_fin {w wb w' : World} {z : Int} {L b n c : Nat} {s : Bool} {A : Option Addr} {u1 u2 : Value} (hs : s = decide (z < 0)) (ho : Own .u64 76 wb.heap.size w' A n c (dg W z.natAbs)) (hb : Below w.heap.size w w') (hwb : w.heap.size ≤ b ∧ b < wb.heap.size) (hl : n ≤ L) :
    GI w z L (.returned (.agg #[.bool s, .slice A n c])) ((w'.setCell ⟨b, 0, none⟩ u1).setCell ⟨b, 1, none⟩ u2) :=
  ⟨A, n, c, s, rfl, hs, (ho.cells2 hwb.2).mono (by omega), below_cells2 hb hwb.1, hl⟩

theorem At.boxc {i : Nat} {v : Value} {t : TypeId} {b : Nat} (w : World) (vs : Array Value) (h : vs[i]? = some v) (hb : b = w.heap.size) : At (w.alloc (.cells vs t)) ⟨b, i, none⟩ v := by
  subst hb; exact At.box w vs h
theorem same5q_any {A A2 : Option Addr} {n c m c2 : Nat} {xs ys : List Nat} {w : World} (h : Rd .u64 w A n c xs) (h' : Rd .u64 w A2 m c2 ys) (hn : n ≤ 1099511627776) :
    Calls Try.prog 103 #[.slice A n c, .slice A2 m c2] w (Quiet (.bool (decide (xs = ys))) w) := by
  have C := Lib.hid (same1_any h h' hn)
  clear h h'
  generalize decide (xs = ys) = bb at *
  go_enter Try.func103, Try.ntmps103
  go_wp2_with fail
  refine C.out.mono ?_
  rintro e w1 ⟨rfl, hb⟩
  go_wp2
  go_ret
  exact ⟨rfl, hb⟩
theorem same5k_any {A A2 : Option Addr} {n c m c2 : Nat} {xs ys : List Nat} {w : World} (h : Rd .u64 w A n c xs) (h' : Rd .u64 w A2 m c2 ys) (e : xs = ys) (hn : n ≤ 1099511627776) :
    Calls Try.prog 103 #[.slice A n c, .slice A2 m c2] w (Keeps (.bool true) w) :=
  (same5q_any h h' hn).mono fun _ _ ⟨he, q, hq⟩ => ⟨by rw [he, e]; simp, by rw [hq]; exact below_drewN _ _⟩

theorem sg_mul (s t : Bool) (x y : Nat) : sg (s != t) (x * y) = sg s x * sg t y := by
  unfold sg
  cases s <;> cases t <;> simp [Int.neg_mul, Int.mul_neg]
theorem sg_same (s : Bool) (x y : Nat) : sg s (x + y) = sg s x + sg s y := by
  unfold sg
  cases s <;> simp [Int.neg_add]
theorem sg_diff {s t : Bool} (h : s ≠ t) {x y : Nat} (hle : y ≤ x) : sg s (x - y) = sg s x + sg t y := by
  unfold sg
  cases s <;> cases t <;> simp at h ⊢ <;> omega
set_option maxHeartbeats 400000 in
theorem sameInt_yes {A A2 : Option Addr} {n c m c2 : Nat} {xs ys : List Nat} {s t : Bool} {w : World} (h : Rd .u64 w A n c xs) (h' : Rd .u64 w A2 m c2 ys) (hst : s = t) (e : xs = ys) (hn : n ≤ 1099511627776) :
    Calls Try.prog 102 #[.agg #[.bool s, .slice A n c], .agg #[.bool t, .slice A2 m c2]] w (Keeps (.bool true) w) := by
  subst hst
  have H := Lib.hid h
  have H' := Lib.hid h'
  have HE := Lib.hid e
  clear h h' e
  have q0 : (s == s) = true := by simp
  go_enter Try.func102, Try.ntmps102
  have e0 := ((At.boxc (i := 0) (v := .bool s) (t := 47) (b := w.heap.size) w #[.bool s, .slice A n c] rfl (by simp)).below ((Below.refl _ _).alloc (Nat.le_refl _) (.cells #[.bool s, .slice A2 m c2] 47))).1
  have e1 := ((At.boxc (i := 1) (v := .slice A n c) (t := 47) (b := w.heap.size) w #[.bool s, .slice A n c] rfl (by simp)).below ((Below.refl _ _).alloc (Nat.le_refl _) (.cells #[.bool s, .slice A2 m c2] 47))).1
  have e2 := (At.boxc (i := 0) (v := .bool s) (t := 47) (b := w.heap.size + 1) (World.alloc w (.cells #[.bool s, .slice A n c] 47)) #[.bool s, .slice A2 m c2] rfl (by simp)).1
  have e3 := (At.boxc (i := 1) (v := .slice A2 m c2) (t := 47) (b := w.heap.size + 1) (World.alloc w (.cells #[.bool s, .slice A n c] 47)) #[.bool s, .slice A2 m c2] rfl (by simp)).1
  go_wp2_with fail
  refine (same5k_any ((H.out.below ((Below.refl _ _).alloc (Nat.le_refl _) (.cells #[.bool s, .slice A n c] 47))).below ((Below.refl _ _).alloc (Nat.le_refl _) (.cells #[.bool s, .slice A2 m c2] 47))) ((H'.out.below ((Below.refl _ _).alloc (Nat.le_refl _) (.cells #[.bool s, .slice A n c] 47))).below ((Below.refl _ _).alloc (Nat.le_refl _) (.cells #[.bool s, .slice A2 m c2] 47))) HE.out hn).mono ?_
  rintro e w1 ⟨rfl, hb1⟩
  go_wp2
  go_ret
  exact ⟨rfl, (bt (bt ((Below.refl _ _).alloc (Nat.le_refl _) (.cells #[.bool s, .slice A n c] 47)) ((Below.refl _ _).alloc (Nat.le_refl _) (.cells #[.bool s, .slice A2 m c2] 47))) hb1)⟩
end Go.Proofs.Ytphofjinncbaaaa
namespace Go.Proofs.Ytphofjinncbaaaa
open Go.RowKit
set_option linter.unusedVariables false

/-- the number that a slice of digits reads as -/
def mvalb (b : Nat) (w : World) : Value → Nat
  | .slice (some a) n _ => val b ((List.range n).map fun i => cellNat (w.cell? (a.add i)))
  | _ => 0
theorem mvalb_rd {b : Nat} {k : IntKind} {w : World} {A : Option Addr} {n c : Nat} {xs : List Nat} (h1 : Rd k w A n c xs) : mvalb b w (.slice A n c) = val b xs := by
  rcases A with _ | a
  · have hn : n = 0 := by
      rcases Nat.eq_zero_or_pos n with h0 | h0
      · exact h0
      · obtain ⟨b, off, e, _⟩ := h1.2 h0
        cases e
    have := h1.len
    rw [hn] at this
    rw [List.eq_nil_of_length_eq_zero this]
    rfl
  · have : (List.range n).map (fun i => cellNat (w.cell? (a.add i))) = xs := by
      refine List.ext_getElem (by simp [h1.len]) fun i hi hi' => ?_
      have hin : i < n := by simpa using hi
      obtain ⟨b, off, e, _, hc⟩ := h1.at hin
      injection e with e
      subst e
      simp only [List.getElem_map, List.getElem_range, addo, hc, cellNat]
      rw [nth_lt hi']
      simp
    simp only [mvalb, this]
def Gc5I (w0 : World) (x y K : Nat) (wr : World) (A1 : Option Addr) (n1 c1 : Nat) (A2 : Option Addr) (n2 c2 s t : Nat) : Prop :=
  Own .i64 3 w0.heap.size wr A1 n1 c1 (dg D s) ∧ Own .i64 3 w0.heap.size wr A2 n2 c2 (dg D t) ∧ Below w0.heap.size w0 wr ∧ Nat.gcd s t = Nat.gcd x y ∧ n1 ≤ 4 * K ∧ n2 ≤ 4 * K
/-- the least common multiple of all -/
def llcm (xs : List Nat) : Nat := xs.foldl Nat.lcm 1
theorem llcm_take {xs : List Nat} {k : Nat} (h : k < xs.length) : llcm (xs.take (k + 1)) = Nat.lcm (llcm (xs.take k)) (nth xs k) := by
  rw [List.take_succ_eq_append_getElem h, llcm, List.foldl_append, nth_lt h]; rfl
end Go.Proofs.Ytphofjinncbaaaa
namespace Go.Proofs.Ytphofjinncbaaaa
open Go.RowKit
set_option linter.unusedVariables false

/-- the n-th root, rounded down -/
def nroot (n : Nat) : Nat → Nat
  | 0 => 0
  | a + 1 => if (nroot n a + 1) ^ n ≤ a + 1 then nroot n a + 1 else nroot n a
theorem nroot_spec {n : Nat} (hn : 1 ≤ n) (a : Nat) : nroot n a ^ n ≤ a ∧ a < (nroot n a + 1) ^ n := by
  induction a with
  | zero => exact ⟨by rw [nroot, Nat.zero_pow (by omega)]; exact Nat.le_refl _, by rw [nroot]; simp⟩
  | succ a ih =>
    obtain ⟨h1, h2⟩ := ih
    rw [nroot]
    split
    · rename_i h
      exact ⟨h, Nat.lt_of_le_of_lt (show a + 1 ≤ (nroot n a + 1) ^ n from h2) (Nat.pow_lt_pow_left (by omega) (by omega))⟩
    · rename_i h
      exact ⟨by omega, by omega⟩
theorem nroot_uniq {n a s : Nat} (hn : 1 ≤ n) (h1 : s ^ n ≤ a) (h2 : a < (s + 1) ^ n) : nroot n a = s := by
  obtain ⟨g1, g2⟩ := nroot_spec hn a
  rcases Nat.lt_trichotomy s (nroot n a) with h | h | h
  · have := Nat.pow_le_pow_left (show s + 1 ≤ nroot n a from h) n
    omega
  · exact h.symm
  · have := Nat.pow_le_pow_left (show nroot n a + 1 ≤ s from h) n
    omega
theorem nroot_zero {n : Nat} : nroot n 0 = 0 := rfl
theorem nroot_one {a : Nat} : nroot 1 a = a := nroot_uniq (Nat.le_refl _) (by simp) (by simp)
theorem nroot_big {n a : Nat} (hn : 1 ≤ n) (h0 : 0 < a) (h : nb a ≤ n) : nroot n a = 1 := by
  refine nroot_uniq hn (by rw [Nat.one_pow]; exact h0) ?_
  have h1 := nb_lt a
  exact Nat.lt_of_lt_of_le h1 (Nat.pow_le_pow_right (by omega) h)
theorem nroot_le {n a : Nat} (hn : 1 ≤ n) : nroot n a ≤ a := by
  obtain ⟨g1, g2⟩ := nroot_spec hn a
  rcases Nat.eq_zero_or_pos (nroot n a) with h | h
  · omega
  · have : nroot n a ^ 1 ≤ nroot n a ^ n := Nat.pow_le_pow_right h hn
    rw [Nat.pow_one] at this
    omega
/-- bit by bit: the bits from j on are found -/
def RtI (n a q s j : Nat) : Prop := s ^ n ≤ a ∧ a < (s + 2 ^ j) ^ n ∧ s + 2 ^ j ≤ 2 ^ (q + 1)
theorem RtI.start {n a : Nat} (hn : 1 ≤ n) : RtI n a (nb a / n) 0 (nb a / n + 1) := by
  refine ⟨by rw [Nat.zero_pow (by omega)]; exact Nat.zero_le _, ?_, by omega⟩
  rw [Nat.zero_add, ← Nat.pow_mul]
  refine Nat.lt_of_lt_of_le (nb_lt a) (Nat.pow_le_pow_right (by omega) ?_)
  have := Nat.lt_div_mul_add (a := nb a) (b := n) (by omega)
  rw [Nat.add_mul, Nat.one_mul]
  omega
theorem RtI.up {n a q s j : Nat} (h : RtI n a q s (j + 1)) (hle : (s + 2 ^ j) ^ n ≤ a) : RtI n a q (s + 2 ^ j) j := by
  obtain ⟨h1, h2, h3⟩ := h
  rw [Nat.pow_succ] at h2 h3
  have e : s + 2 ^ j + 2 ^ j = s + 2 ^ j * 2 := by omega
  exact ⟨hle, by rw [e]; exact h2, by rw [e]; exact h3⟩
theorem RtI.stay {n a q s j : Nat} (h : RtI n a q s (j + 1)) (hgt : a < (s + 2 ^ j) ^ n) : RtI n a q s j := by
  obtain ⟨h1, h2, h3⟩ := h
  rw [Nat.pow_succ] at h3
  exact ⟨h1, hgt, by have := Nat.pow_pos (n := j) (show 0 < 2 by omega); omega⟩
theorem RtI.done {n a q s : Nat} (h : RtI n a q s 0) (hn : 1 ≤ n) : s = nroot n a := by
  obtain ⟨h1, h2, h3⟩ := h
  exact (nroot_uniq hn h1 (by simpa using h2)).symm
theorem RtI.next_lt {n a q s j : Nat} (h : RtI n a q s (j + 1)) : s + 2 ^ j < 2 ^ (q + 1) := by
  obtain ⟨h1, h2, h3⟩ := h
  rw [Nat.pow_succ] at h3
  have := Nat.pow_pos (n := j) (show 0 < 2 by omega)
  omega
theorem two_W {x q : Nat} (h : x < 2 ^ (q + 1)) : x < W ^ (q / 64 + 1) := by
  refine Nat.lt_of_lt_of_le h ?_
  rw [show W = 2 ^ 64 from rfl, ← Nat.pow_mul]
  exact Nat.pow_le_pow_right (by omega) (by omega)
/-- so many words take the powers -/
theorem root_len {L n b : Nat} (hn : 1 ≤ n) (hb : b ≤ 64 * L) (hnb : n < b) : (b / n / 64 + 2) * n ≤ 129 * L := by
  have h1 : b / n / 64 * n ≤ L := by
    have h2 : b / n / 64 * 64 ≤ b / n := Nat.div_mul_le_self _ _
    have h3 : b / n * n ≤ b := Nat.div_mul_le_self _ _
    have h4 : b / n / 64 * 64 * n ≤ b / n * n := Nat.mul_le_mul_right _ h2
    rw [Nat.mul_assoc, Nat.mul_comm 64 n, ← Nat.mul_assoc] at h4
    omega
  rw [Nat.add_mul]
  omega
theorem nb_W {x L : Nat} (h : x < W ^ L) : nb x ≤ 64 * L := by
  rcases Nat.eq_zero_or_pos x with h0 | h0
  · subst h0; rw [nb_zero]; exact Nat.zero_le _
  · obtain ⟨h1, h2⟩ := nb_le h0
    rw [show W = 2 ^ 64 from rfl, ← Nat.pow_mul] at h
    have := (Nat.pow_lt_pow_iff_right (show 1 < 2 by omega)).1 (Nat.lt_of_le_of_lt h1 h)
    omega

theorem val_top (n p : Nat) : val W ((List.replicate (n + 1) 0).set n p) = W ^ n * p := by
  have e : (List.replicate (n + 1) 0).set n p = List.replicate n 0 ++ [p] := by
    rw [List.replicate_succ', List.set_append_right _ _ (by simp)]
    simp
  rw [e, val_append, val_replicate, List.length_replicate]
  simp [val]
theorem and_one64 (i : Nat) (hi : i < 9223372036854775808) : bits BinOp.and IntKind.i64 (i : Int) 1 = ((i % 2 : Nat) : Int) := by
  have t63 : (2 : Int) ^ 63 = 9223372036854775808 := by decide
  have h := bits_mask .i64 63 (by decide) (fun n h0 h1 => by rw [t63] at h1; rw [IntKind.wrap_i64]; omega) 1 (by decide) (i : Int) (by omega) (by rw [t63]; omega)
  have e : ((2 : Int) ^ 1 - 1) = 1 := by decide
  rw [e] at h
  rw [h]
  omega
def GRt (w : World) (n a L : Nat) (e : Ending) (w' : World) : Prop :=
  ∃ A m c, e = .returned (.tuple #[.slice A m c, .bool (decide (nroot n a ^ n = a)), .int .i64 0]) ∧ Own .u64 76 w.heap.size w' A m c (dg W (nroot n a)) ∧ Below w.heap.size w w' ∧ m ≤ L
end Go.Proofs.Ytphofjinncbaaaa
