/-
  The document's tools of arithmetic (surdref05): Zero, Bits. Integers: sign and size. What a call gives that answers an integer in its own form. The document's tools (surdref05): Cmp, Minus, I, Z, Neg, Add, Sub, Mul, Exact, SameInt. The document's divisors (surdref05): Gcd, All, Lcm, AllLcm, Coprime; gcd.AllLcm. The n-th root, rounded down, in plain Lean. Walks: gcd.two, power, Root, Sqrt. A law for regions that draw their order and store at their end: what is stored may be memory that was loaded before: each store waits for all that is taken first. No program here. The helpers of the laws of layer 5 (surdlaw05): copied, copies, few, less, inForm, fixed. surdlaw05.fixed. Walks: gcd.Inverse, gcd.Count. How often a number divides another. The document's roots and counts (surdref05): Two, below, Pow, Root, Sqrt, Count. Boxes that float: a new variable's memory in a region that draws its order; stores into it at the region's end. Stores leave other kinds of memory alone. No program here. The document's integers (surdref05): Neg, Sub, Exact, mod. The document's some (surdref05): a factor of a that gives the gcd modulo b. The document's Extended and Inverse (surdref05).
-/
import Derived.Test.YtphofjinncbaaaaRef5X
import Derived.Test.YtphofjinncbaaaaDigQ
import Derived.Test.YtphofjinncbaaaaGcd
import Derived.Test.YtphofjinncbaaaaGcdD
import Derived.Test.YtphofjinncbaaaaPowX
import Derived.Test.YtphofjinncbaaaaNatB
import Derived.Test.YtphofjinncbaaaaOrd
import Derived.Test.YtphofjinncbaaaaRows2
namespace Go.Proofs.Ytphofjinncbaaaa
open Go.RowKit
set_option linter.unusedVariables false
end Go.Proofs.Ytphofjinncbaaaa
namespace Go.Proofs.Ytphofjinncbaaaa
open Go.RowKit
set_option linter.unusedVariables false

/-- the integer of a sign and a size -/
def sg (s : Bool) (x : Nat) : Int := if s = true then -(x : Int) else (x : Int)
theorem sg_false (x : Nat) : sg false x = (x : Int) := rfl
theorem sg_true (x : Nat) : sg true x = -(x : Int) := rfl
theorem sg_of {s : Bool} {z : Int} (h : s = decide (z < 0)) : sg s z.natAbs = z := by
  subst h
  unfold sg
  split
  · rename_i h; have : z < 0 := by simpa using h
    omega
  · rename_i h; have : ¬ z < 0 := by simpa using h
    omega
theorem sg_abs (s : Bool) (x : Nat) : (sg s x).natAbs = x := by unfold sg; split <;> simp
theorem sg_neg (s : Bool) (x : Nat) : decide (sg s x < 0) = (s && decide (0 < x)) := by
  unfold sg
  cases s
  · simp
  · simp
theorem sg_not (s : Bool) (x : Nat) : sg (!s) x = -sg s x := by unfold sg; cases s <;> simp
/-- a new integer in its own form -/
def GI (w : World) (z : Int) (L : Nat) (e : Ending) (w' : World) : Prop :=
  ∃ A n c s, e = .returned (.agg #[.bool s, .slice A n c]) ∧ Hid (s = decide (z < 0)) ∧ Own .u64 76 w.heap.size w' A n c (dg W z.natAbs) ∧ Below w.heap.size w w' ∧ n ≤ L
theorem GI.eq {w w' : World} {z z' : Int} {L : Nat} {e : Ending} (h : GI w z L e w') (hz : z = z') : GI w z' L e w' := hz ▸ h
theorem GI.mono {w w' : World} {z : Int} {L L' : Nat} {e : Ending} (h : GI w z L e w') (hL : L ≤ L') : GI w z L' e w' := by
  obtain ⟨A, n, c, s, h1, h2, h3, h4, h5⟩ := h
  exact ⟨A, n, c, s, h1, h2, h3, h4, by omega⟩
theorem Own.cells2 {k : IntKind} {t : TypeId} {B n c b : Nat} {w : World} {A : Option Addr} {xs : List Nat} {u1 u2 : Value} (h : Own k t B w A n c xs) (hp : b < B) : Own k t B ((w.setCell ⟨b, 0, none⟩ u1).setCell ⟨b, 1, none⟩ u2) A n c xs :=
  (h.set_low (p := ⟨b, 0, none⟩) hp u1).set_low (p := ⟨b, 1, none⟩) hp u2
theorem below_cells2 {B b : Nat} {w w' : World} {u1 u2 : Value} (h : Below B w w') (hb : B ≤ b) : Below B w ((w'.setCell ⟨b, 0, none⟩ u1).setCell ⟨b, 1, none⟩ u2) :=
  (h.setCell (p := ⟨b, 0, none⟩) hb u1).setCell (p := ⟨b, 1, none⟩) hb u2
theorem At.growS {w : World} {p : Addr} {v : Value} {b : Nat} (h : At w p v) (hne : p.block ≠ b) : ∀ w', Grow (some b) w.drew w' → w'.cell? p = some v := fun w' g => g.cell (p := p) (v := v) h.1 (by simpa using hne)
/-- the end of a walk that answers one integer -/
theorem gi_fin {w wb w' : World} {z : Int} {L b n c : Nat} {s : Bool} {A : Option Addr} {u1 u2 : Value} (hs : s = decide (z < 0)) (ho : Own .u64 76 wb.heap.size w' A n c (dg W z.natAbs)) (hb : Below w.heap.size w w') (hwb : w.heap.size ≤ b ∧ b < wb.heap.size) (hl : n ≤ L) :
    GI w z L (.returned (.agg #[.bool s, .slice A n c])) ((w'.setCell ⟨b, 0, none⟩ u1).setCell ⟨b, 1, none⟩ u2) :=
  ⟨A, n, c, s, rfl, hs, (ho.cells2 hwb.2).mono (by omega), below_cells2 hb hwb.1, hl⟩

theorem At.boxc {i : Nat} {v : Value} {t : TypeId} {b : Nat} (w : World) (vs : Array Value) (h : vs[i]? = some v) (hb : b = w.heap.size) : At (w.alloc (.cells vs t)) ⟨b, i, none⟩ v := by
  subst hb; exact At.box w vs h
theorem same5q_any {A A2 : Option Addr} {n c m c2 : Nat} {xs ys : List Nat} {w : World} (h : Rd .u64 w A n c xs) (h' : Rd .u64 w A2 m c2 ys) (hn : n ≤ 1099511627776) :
    Calls Try.prog 103 #[.slice A n c, .slice A2 m c2] w (Quiet (.bool (decide (xs = ys))) w) := by
  have C := Lib.hid (same1_any h h' hn)
  clear h h'
  generalize decide (xs = ys) = bb at *
  go_enter Try.func103, Try.ntmps103
  go_wp2_with fail
  refine C.out.mono ?_
  rintro e w1 ⟨rfl, hb⟩
  go_wp2
  go_ret
  exact ⟨rfl, hb⟩
theorem same5k_any {A A2 : Option Addr} {n c m c2 : Nat} {xs ys : List Nat} {w : World} (h : Rd .u64 w A n c xs) (h' : Rd .u64 w A2 m c2 ys) (e : xs = ys) (hn : n ≤ 1099511627776) :
    Calls Try.prog 103 #[.slice A n c, .slice A2 m c2] w (Keeps (.bool true) w) :=
  (same5q_any h h' hn).mono fun _ _ ⟨he, q, hq⟩ => ⟨by rw [he, e]; simp, by rw [hq]; exact below_drewN _ _⟩

theorem sg_mul (s t : Bool) (x y : Nat) : sg (s != t) (x * y) = sg s x * sg t y := by
  unfold sg
  cases s <;> cases t <;> simp [Int.neg_mul, Int.mul_neg]
theorem sg_same (s : Bool) (x y : Nat) : sg s (x + y) = sg s x + sg s y := by
  unfold sg
  cases s <;> simp [Int.neg_add]
theorem sg_diff {s t : Bool} (h : s ≠ t) {x y : Nat} (hle : y ≤ x) : sg s (x - y) = sg s x + sg t y := by
  unfold sg
  cases s <;> cases t <;> simp at h ⊢ <;> omega
set_option maxHeartbeats 400000 in
theorem sameInt_yes {A A2 : Option Addr} {n c m c2 : Nat} {xs ys : List Nat} {s t : Bool} {w : World} (h : Rd .u64 w A n c xs) (h' : Rd .u64 w A2 m c2 ys) (hst : s = t) (e : xs = ys) (hn : n ≤ 1099511627776) :
    Calls Try.prog 102 #[.agg #[.bool s, .slice A n c], .agg #[.bool t, .slice A2 m c2]] w (Keeps (.bool true) w) := by
  subst hst
  have H := Lib.hid h
  have H' := Lib.hid h'
  have HE := Lib.hid e
  clear h h' e
  have q0 : (s == s) = true := by simp
  go_enter Try.func102, Try.ntmps102
  have e0 := ((At.boxc (i := 0) (v := .bool s) (t := 47) (b := w.heap.size) w #[.bool s, .slice A n c] rfl (by simp)).below ((Below.refl _ _).alloc (Nat.le_refl _) (.cells #[.bool s, .slice A2 m c2] 47))).1
  have e1 := ((At.boxc (i := 1) (v := .slice A n c) (t := 47) (b := w.heap.size) w #[.bool s, .slice A n c] rfl (by simp)).below ((Below.refl _ _).alloc (Nat.le_refl _) (.cells #[.bool s, .slice A2 m c2] 47))).1
  have e2 := (At.boxc (i := 0) (v := .bool s) (t := 47) (b := w.heap.size + 1) (World.alloc w (.cells #[.bool s, .slice A n c] 47)) #[.bool s, .slice A2 m c2] rfl (by simp)).1
  have e3 := (At.boxc (i := 1) (v := .slice A2 m c2) (t := 47) (b := w.heap.size + 1) (World.alloc w (.cells #[.bool s, .slice A n c] 47)) #[.bool s, .slice A2 m c2] rfl (by simp)).1
  go_wp2_with fail
  refine (same5k_any ((H.out.below ((Below.refl _ _).alloc (Nat.le_refl _) (.cells #[.bool s, .slice A n c] 47))).below ((Below.refl _ _).alloc (Nat.le_refl _) (.cells #[.bool s, .slice A2 m c2] 47))) ((H'.out.below ((Below.refl _ _).alloc (Nat.le_refl _) (.cells #[.bool s, .slice A n c] 47))).below ((Below.refl _ _).alloc (Nat.le_refl _) (.cells #[.bool s, .slice A2 m c2] 47))) HE.out hn).mono ?_
  rintro e w1 ⟨rfl, hb1⟩
  go_wp2
  go_ret
  exact ⟨rfl, (bt (bt ((Below.refl _ _).alloc (Nat.le_refl _) (.cells #[.bool s, .slice A n c] 47)) ((Below.refl _ _).alloc (Nat.le_refl _) (.cells #[.bool s, .slice A2 m c2] 47))) hb1)⟩
end Go.Proofs.Ytphofjinncbaaaa
namespace Go.Proofs.Ytphofjinncbaaaa
open Go.RowKit
set_option linter.unusedVariables false

/-- the number that a slice of digits reads as -/
def mvalb (b : Nat) (w : World) : Value → Nat
  | .slice (some a) n _ => val b ((List.range n).map fun i => cellNat (w.cell? (a.add i)))
  | _ => 0
theorem mvalb_rd {b : Nat} {k : IntKind} {w : World} {A : Option Addr} {n c : Nat} {xs : List Nat} (h1 : Rd k w A n c xs) : mvalb b w (.slice A n c) = val b xs := by
  rcases A with _ | a
  · have hn : n = 0 := by
      rcases Nat.eq_zero_or_pos n with h0 | h0
      · exact h0
      · obtain ⟨b, off, e, _⟩ := h1.2 h0
        cases e
    have := h1.len
    rw [hn] at this
    rw [List.eq_nil_of_length_eq_zero this]
    rfl
  · have : (List.range n).map (fun i => cellNat (w.cell? (a.add i))) = xs := by
      refine List.ext_getElem (by simp [h1.len]) fun i hi hi' => ?_
      have hin : i < n := by simpa using hi
      obtain ⟨b, off, e, _, hc⟩ := h1.at hin
      injection e with e
      subst e
      simp only [List.getElem_map, List.getElem_range, addo, hc, cellNat]
      rw [nth_lt hi']
      simp
    simp only [mvalb, this]
def Gc5I (w0 : World) (x y K : Nat) (wr : World) (A1 : Option Addr) (n1 c1 : Nat) (A2 : Option Addr) (n2 c2 s t : Nat) : Prop :=
  Own .i64 3 w0.heap.size wr A1 n1 c1 (dg D s) ∧ Own .i64 3 w0.heap.size wr A2 n2 c2 (dg D t) ∧ Below w0.heap.size w0 wr ∧ Nat.gcd s t = Nat.gcd x y ∧ n1 ≤ 4 * K ∧ n2 ≤ 4 * K
/-- the least common multiple of all -/
def llcm (xs : List Nat) : Nat := xs.foldl Nat.lcm 1
theorem llcm_take {xs : List Nat} {k : Nat} (h : k < xs.length) : llcm (xs.take (k + 1)) = Nat.lcm (llcm (xs.take k)) (nth xs k) := by
  rw [List.take_succ_eq_append_getElem h, llcm, List.foldl_append, nth_lt h]; rfl
end Go.Proofs.Ytphofjinncbaaaa
namespace Go.Proofs.Ytphofjinncbaaaa
open Go.RowKit
set_option linter.unusedVariables false

/-- the n-th root, rounded down -/
def nroot (n : Nat) : Nat → Nat
  | 0 => 0
  | a + 1 => if (nroot n a + 1) ^ n ≤ a + 1 then nroot n a + 1 else nroot n a
theorem nroot_spec {n : Nat} (hn : 1 ≤ n) (a : Nat) : nroot n a ^ n ≤ a ∧ a < (nroot n a + 1) ^ n := by
  induction a with
  | zero => exact ⟨by rw [nroot, Nat.zero_pow (by omega)]; exact Nat.le_refl _, by rw [nroot]; simp⟩
  | succ a ih =>
    obtain ⟨h1, h2⟩ := ih
    rw [nroot]
    split
    · rename_i h
      exact ⟨h, Nat.lt_of_le_of_lt (show a + 1 ≤ (nroot n a + 1) ^ n from h2) (Nat.pow_lt_pow_left (by omega) (by omega))⟩
    · rename_i h
      exact ⟨by omega, by omega⟩
theorem nroot_uniq {n a s : Nat} (hn : 1 ≤ n) (h1 : s ^ n ≤ a) (h2 : a < (s + 1) ^ n) : nroot n a = s := by
  obtain ⟨g1, g2⟩ := nroot_spec hn a
  rcases Nat.lt_trichotomy s (nroot n a) with h | h | h
  · have := Nat.pow_le_pow_left (show s + 1 ≤ nroot n a from h) n
    omega
  · exact h.symm
  · have := Nat.pow_le_pow_left (show nroot n a + 1 ≤ s from h) n
    omega
theorem nroot_zero {n : Nat} : nroot n 0 = 0 := rfl
theorem nroot_one {a : Nat} : nroot 1 a = a := nroot_uniq (Nat.le_refl _) (by simp) (by simp)
theorem nroot_big {n a : Nat} (hn : 1 ≤ n) (h0 : 0 < a) (h : nb a ≤ n) : nroot n a = 1 := by
  refine nroot_uniq hn (by rw [Nat.one_pow]; exact h0) ?_
  have h1 := nb_lt a
  exact Nat.lt_of_lt_of_le h1 (Nat.pow_le_pow_right (by omega) h)
theorem nroot_le {n a : Nat} (hn : 1 ≤ n) : nroot n a ≤ a := by
  obtain ⟨g1, g2⟩ := nroot_spec hn a
  rcases Nat.eq_zero_or_pos (nroot n a) with h | h
  · omega
  · have : nroot n a ^ 1 ≤ nroot n a ^ n := Nat.pow_le_pow_right h hn
    rw [Nat.pow_one] at this
    omega
/-- bit by bit: the bits from j on are found -/
def RtI (n a q s j : Nat) : Prop := s ^ n ≤ a ∧ a < (s + 2 ^ j) ^ n ∧ s + 2 ^ j ≤ 2 ^ (q + 1)
theorem RtI.start {n a : Nat} (hn : 1 ≤ n) : RtI n a (nb a / n) 0 (nb a / n + 1) := by
  refine ⟨by rw [Nat.zero_pow (by omega)]; exact Nat.zero_le _, ?_, by omega⟩
  rw [Nat.zero_add, ← Nat.pow_mul]
  refine Nat.lt_of_lt_of_le (nb_lt a) (Nat.pow_le_pow_right (by omega) ?_)
  have := Nat.lt_div_mul_add (a := nb a) (b := n) (by omega)
  rw [Nat.add_mul, Nat.one_mul]
  omega
theorem RtI.up {n a q s j : Nat} (h : RtI n a q s (j + 1)) (hle : (s + 2 ^ j) ^ n ≤ a) : RtI n a q (s + 2 ^ j) j := by
  obtain ⟨h1, h2, h3⟩ := h
  rw [Nat.pow_succ] at h2 h3
  have e : s + 2 ^ j + 2 ^ j = s + 2 ^ j * 2 := by omega
  exact ⟨hle, by rw [e]; exact h2, by rw [e]; exact h3⟩
theorem RtI.stay {n a q s j : Nat} (h : RtI n a q s (j + 1)) (hgt : a < (s + 2 ^ j) ^ n) : RtI n a q s j := by
  obtain ⟨h1, h2, h3⟩ := h
  rw [Nat.pow_succ] at h3
  exact ⟨h1, hgt, by have := Nat.pow_pos (n := j) (show 0 < 2 by omega); omega⟩
theorem RtI.done {n a q s : Nat} (h : RtI n a q s 0) (hn : 1 ≤ n) : s = nroot n a := by
  obtain ⟨h1, h2, h3⟩ := h
  exact (nroot_uniq hn h1 (by simpa using h2)).symm
theorem RtI.next_lt {n a q s j : Nat} (h : RtI n a q s (j + 1)) : s + 2 ^ j < 2 ^ (q + 1) := by
  obtain ⟨h1, h2, h3⟩ := h
  rw [Nat.pow_succ] at h3
  have := Nat.pow_pos (n := j) (show 0 < 2 by omega)
  omega
theorem two_W {x q : Nat} (h : x < 2 ^ (q + 1)) : x < W ^ (q / 64 + 1) := by
  refine Nat.lt_of_lt_of_le h ?_
  rw [show W = 2 ^ 64 from rfl, ← Nat.pow_mul]
  exact Nat.pow_le_pow_right (by omega) (by omega)
/-- so many words take the powers -/
theorem root_len {L n b : Nat} (hn : 1 ≤ n) (hb : b ≤ 64 * L) (hnb : n < b) : (b / n / 64 + 2) * n ≤ 129 * L := by
  have h1 : b / n / 64 * n ≤ L := by
    have h2 : b / n / 64 * 64 ≤ b / n := Nat.div_mul_le_self _ _
    have h3 : b / n * n ≤ b := Nat.div_mul_le_self _ _
    have h4 : b / n / 64 * 64 * n ≤ b / n * n := Nat.mul_le_mul_right _ h2
    rw [Nat.mul_assoc, Nat.mul_comm 64 n, ← Nat.mul_assoc] at h4
    omega
  rw [Nat.add_mul]
  omega
theorem nb_W {x L : Nat} (h : x < W ^ L) : nb x ≤ 64 * L := by
  rcases Nat.eq_zero_or_pos x with h0 | h0
  · subst h0; rw [nb_zero]; exact Nat.zero_le _
  · obtain ⟨h1, h2⟩ := nb_le h0
    rw [show W = 2 ^ 64 from rfl, ← Nat.pow_mul] at h
    have := (Nat.pow_lt_pow_iff_right (show 1 < 2 by omega)).1 (Nat.lt_of_le_of_lt h1 h)
    omega

theorem val_top (n p : Nat) : val W ((List.replicate (n + 1) 0).set n p) = W ^ n * p := by
  have e : (List.replicate (n + 1) 0).set n p = List.replicate n 0 ++ [p] := by
    rw [List.replicate_succ', List.set_append_right _ _ (by simp)]
    simp
  rw [e, val_append, val_replicate, List.length_replicate]
  simp [val]
theorem and_one64 (i : Nat) (hi : i < 9223372036854775808) : bits BinOp.and IntKind.i64 (i : Int) 1 = ((i % 2 : Nat) : Int) := by
  have t63 : (2 : Int) ^ 63 = 9223372036854775808 := by decide
  have h := bits_mask .i64 63 (by decide) (fun n h0 h1 => by rw [t63] at h1; rw [IntKind.wrap_i64]; omega) 1 (by decide) (i : Int) (by omega) (by rw [t63]; omega)
  have e : ((2 : Int) ^ 1 - 1) = 1 := by decide
  rw [e] at h
  rw [h]
  omega
def GRt (w : World) (n a L : Nat) (e : Ending) (w' : World) : Prop :=
  ∃ A m c, e = .returned (.tuple #[.slice A m c, .bool (decide (nroot n a ^ n = a)), .int .i64 0]) ∧ Own .u64 76 w.heap.size w' A m c (dg W (nroot n a)) ∧ Below w.heap.size w w' ∧ m ≤ L
end Go.Proofs.Ytphofjinncbaaaa
namespace Go.Proofs.Ytphofjinncbaaaa
open Go.RowKit
set_option linter.unusedVariables false

section
variable {P : Program} {ops : Array Oper} {md : Region.Mode} {Q : Exit → Act → World → Prop} {st : List Nat}

/-- whatever order is picked, old memory stays but for what the stores do -/
def wpAnyS (P : Program) (md : Region.Mode) (ops : Array Oper) (Q : Exit → Act → World → Prop) (st : List Nat) : Nat → Array Bool → Act → World → Prop
  | 0, listed, a, w => Region.ready md ops listed = [] ∧ Q .normal a w
  | fuel + 1, listed, a, w =>
    (Region.ready md ops listed = [] → Q .normal a w) ∧
    ∀ i ∈ Region.ready md ops listed, wpOp P ops Q i (fun a' w' => (i ∈ st ∨ Grow none w w') ∧ wpAnyS P md ops Q st fuel (listed.setIfInBounds i true) a' w') a w
theorem wpAny_of_S : ∀ (fuel : Nat) (listed : Array Bool) (a : Act) (w : World), wpAnyS P md ops Q st fuel listed a w → wpAny P md ops Q fuel listed a w
  | 0, _, _, _, h => h
  | fuel + 1, _, _, _, h => ⟨h.1, fun i hi => wpOp_mono (fun a' w' h' => wpAny_of_S fuel _ a' w' h'.2) (h.2 i hi)⟩

/-- does number j wait for number i? -/
def waits (md : Region.Mode) (ops : Array Oper) (j i : Nat) : Bool :=
  match ops[j]? with
  | some o => o.after.any fun e => Region.binds md e && decide (e.on = i)
  | none => true

theorem wpAnyS_first {i : Nat} {oi : Oper} {v : Value} (hi : ops[i]? = some oi) (hsel : ∀ (j : Nat) (o : Oper) cs b, ops[j]? = some o → o.op ≠ .select cs b)
    (hQ : ∀ c a w, Q (.panic c) (a.put oi.dst v) w → Q (.panic c) a w) :
    ∀ (fuel : Nat) (listed : Array Bool) (a : Act) (w : World),
      (∀ j oj, ops[j]? = some oj → j ≠ i → listed.getD j true = false → (∀ e ∈ oj.after, Region.binds md e = true → e.on ≠ i) → oi.apart ops oj = true) →
      (∀ j ∈ st, listed.getD j true = true ∨ waits md ops j i = true) →
      i ∈ Region.ready md ops listed → YieldsIf P ops (Grow none w) oi v a →
      wpAnyS P md ops Q st fuel (listed.setIfInBounds i true) (a.put oi.dst v) w → wpAnyS P md ops Q st (fuel + 1) listed a w := by
  intro fuel
  induction fuel with
  | zero =>
    intro listed a w _ _ hr hy H
    refine ⟨fun h => (by rw [h] at hr; cases hr), fun j hj => ?_⟩
    by_cases hji : j = i
    · subst hji; exact hy.wpOp hi (Grow.refl none w) ⟨.inr (Grow.refl none w), H⟩
    · have := ready_mono hj hji
      rw [H.1] at this
      cases this
  | succ fuel ih =>
    intro listed a w hfree hst hr hy H
    refine ⟨fun h => (by rw [h] at hr; cases hr), fun j hj => ?_⟩
    by_cases hji : j = i
    · subst hji; exact hy.wpOp hi (Grow.refl none w) ⟨.inr (Grow.refl none w), H⟩
    · have h1 := H.2 j (ready_mono hj hji)
      obtain ⟨hjun, oj, hoj, hall⟩ := mem_ready.1 hj
      have hnot : ∀ e ∈ oj.after, Region.binds md e = true → e.on ≠ i := fun e he hb heq => by
        have h1 := hall e he hb
        have h0 := (mem_ready.1 hr).1
        rw [heq] at h1
        rcases Nat.lt_or_ge i listed.size with h' | h'
        · simp [h'] at h0 h1; rw [h0] at h1; cases h1
        · simp [Array.getElem?_eq_none h'] at h1
      have hns : j ∉ st := fun hjs => by
        rcases hst j hjs with h2 | h2
        · rw [hjun] at h2; cases h2
        · unfold waits at h2
          rw [hoj] at h2
          simp only [Array.any_eq_true, Bool.and_eq_true, decide_eq_true_eq] at h2
          obtain ⟨k, hk, hb, he⟩ := h2
          exact hnot _ (Array.getElem_mem hk) hb he
      have h2 := wpOp_putIf hoj (hfree j oj hoj hji hjun hnot) (fun cs b => hsel i oi cs b hi) (fun cs b => hsel j oj cs b hoj) hQ hy h1
      have hfree' : ∀ k ok, ops[k]? = some ok → k ≠ i → (listed.setIfInBounds j true).getD k true = false →
          (∀ e ∈ ok.after, Region.binds md e = true → e.on ≠ i) → oi.apart ops ok = true := fun k ok hk hki hun hno => by
        refine hfree k ok hk hki ?_ hno
        by_cases hjk : j = k
        · subst hjk; exact hjun
        · rw [getD_set_ne true hjk] at hun; exact hun
      have hst' : ∀ k ∈ st, (listed.setIfInBounds j true).getD k true = true ∨ waits md ops k i = true := fun k hk => by
        rcases hst k hk with h3 | h3
        · left
          by_cases hjk : j = k
          · subst hjk; exact absurd hk hns
          · rw [getD_set_ne true hjk]; exact h3
        · exact .inr h3
      refine wpOp_mono (fun a' w' h3 => ?_) h2
      have hg : Grow none w w' := h3.2.1.resolve_left hns
      refine ⟨h3.2.1, ih (listed.setIfInBounds j true) a' w' hfree' hst' (ready_mono hr (Ne.symm hji)) (yieldsIf_weak (fun u hu => Grow.trans none _ _ _ hg hu) h3.1) ?_⟩
      rw [Array.setIfInBounds_comm _ _ hji]
      exact h3.2.2

theorem wpAnyS_firstT {i : Nat} {oi : Oper} {v : Value} (hi : ops[i]? = some oi) (hsel : ∀ (j : Nat) (o : Oper) cs b, ops[j]? = some o → o.op ≠ .select cs b)
    (hQ : ∀ c a w, Q (.panic c) (a.put oi.dst v) w → Q (.panic c) a w) :
    ∀ (fuel : Nat) (listed : Array Bool) (a : Act) (w : World),
      (∀ j oj, ops[j]? = some oj → j ≠ i → listed.getD j true = false → (∀ e ∈ oj.after, Region.binds md e = true → e.on ≠ i) → oi.apart ops oj = true) →
      i ∈ Region.ready md ops listed → YieldsIf P ops (fun _ => True) oi v a →
      wpAnyS P md ops Q st fuel (listed.setIfInBounds i true) (a.put oi.dst v) w → wpAnyS P md ops Q st (fuel + 1) listed a w := by
  intro fuel
  induction fuel with
  | zero =>
    intro listed a w _ hr hy H
    refine ⟨fun h => (by rw [h] at hr; cases hr), fun j hj => ?_⟩
    by_cases hji : j = i
    · subst hji; exact hy.wpOp hi trivial ⟨.inr (Grow.refl none w), H⟩
    · have := ready_mono hj hji
      rw [H.1] at this
      cases this
  | succ fuel ih =>
    intro listed a w hfree hr hy H
    refine ⟨fun h => (by rw [h] at hr; cases hr), fun j hj => ?_⟩
    by_cases hji : j = i
    · subst hji; exact hy.wpOp hi trivial ⟨.inr (Grow.refl none w), H⟩
    · have h1 := H.2 j (ready_mono hj hji)
      obtain ⟨hjun, oj, hoj, hall⟩ := mem_ready.1 hj
      have hnot : ∀ e ∈ oj.after, Region.binds md e = true → e.on ≠ i := fun e he hb heq => by
        have h1 := hall e he hb
        have h0 := (mem_ready.1 hr).1
        rw [heq] at h1
        rcases Nat.lt_or_ge i listed.size with h' | h'
        · simp [h'] at h0 h1; rw [h0] at h1; cases h1
        · simp [Array.getElem?_eq_none h'] at h1
      have h2 := wpOp_putIf hoj (hfree j oj hoj hji hjun hnot) (fun cs b => hsel i oi cs b hi) (fun cs b => hsel j oj cs b hoj) hQ hy h1
      have hfree' : ∀ k ok, ops[k]? = some ok → k ≠ i → (listed.setIfInBounds j true).getD k true = false →
          (∀ e ∈ ok.after, Region.binds md e = true → e.on ≠ i) → oi.apart ops ok = true := fun k ok hk hki hun hno => by
        refine hfree k ok hk hki ?_ hno
        by_cases hjk : j = k
        · subst hjk; exact hjun
        · rw [getD_set_ne true hjk] at hun; exact hun
      refine wpOp_mono (fun a' w' h3 => ?_) h2
      refine ⟨h3.2.1, ih (listed.setIfInBounds j true) a' w' hfree' (ready_mono hr (Ne.symm hji)) h3.1 ?_⟩
      rw [Array.setIfInBounds_comm _ _ hji]
      exact h3.2.2

/-- an order: 0 taken first (pure), 1 alone (old memory stays), 2 a store, alone, 3 taken first, whatever the world -/
def sordB (md : Region.Mode) (ops : Array Oper) (st : List Nat) : List (Nat × Nat) → Array Bool → Bool
  | [], listed => (Region.ready md ops listed).isEmpty
  | (0, i) :: rest, listed => (Region.ready md ops listed).contains i && Region.free md ops listed i && st.all (fun j => listed.getD j true || waits md ops j i) && sordB md ops st rest (listed.setIfInBounds i true)
  | (1, i) :: rest, listed => decide (Region.ready md ops listed = [i]) && sordB md ops st rest (listed.setIfInBounds i true)
  | (3, i) :: rest, listed => (Region.ready md ops listed).contains i && Region.free md ops listed i && sordB md ops st rest (listed.setIfInBounds i true)
  | (_, i) :: rest, listed => st.contains i && decide (Region.ready md ops listed = [i]) && sordB md ops st rest (listed.setIfInBounds i true)
def wpS (P : Program) (ops : Array Oper) (Q : Exit → Act → World → Prop) : List (Nat × Nat) → Act → World → Prop
  | [], a, w => Q .normal a w
  | (0, i) :: rest, a, w => ∃ o, ops[i]? = some o ∧ ∃ v, YieldsIf P ops (Grow none w) o v a ∧ wpS P ops Q rest (a.put o.dst v) w
  | (1, i) :: rest, a, w => wpOp P ops (onlyN Q) i (fun a' w' => Grow none w w' ∧ wpS P ops Q rest a' w') a w
  | (3, i) :: rest, a, w => ∃ o, ops[i]? = some o ∧ ∃ v, YieldsIf P ops (fun _ => True) o v a ∧ wpS P ops Q rest (a.put o.dst v) w
  | (_, i) :: rest, a, w => wpOp P ops (onlyN Q) i (fun a' w' => wpS P ops Q rest a' w') a w
theorem wpAnyS_of_ord (hs : Region.noSelect ops = true) :
    ∀ (l : List (Nat × Nat)) (listed : Array Bool) (a : Act) (w : World), sordB md ops st l listed = true → wpS P ops Q l a w → wpAnyS P md ops (onlyN Q) st l.length listed a w
  | [], listed, a, w, hB, h => ⟨by simpa [sordB] using hB, rfl, h⟩
  | (0, i) :: rest, listed, a, w, hB, h => by
    simp only [sordB, Bool.and_eq_true, List.all_eq_true, Bool.or_eq_true] at hB
    obtain ⟨⟨⟨hr, hf⟩, hst⟩, hB'⟩ := hB
    obtain ⟨o, ho, v, hy, h'⟩ := h
    exact wpAnyS_first ho (Region.noSelect_spec hs) (fun c a w hh => absurd hh.1 (by simp)) rest.length listed a w (Region.free_spec ho hf) hst (by simpa using hr) hy
      (wpAnyS_of_ord hs rest _ _ _ hB' h')
  | (1, i) :: rest, listed, a, w, hB, h => by
    simp only [sordB, Bool.and_eq_true, decide_eq_true_eq] at hB
    refine ⟨fun h0 => (by rw [hB.1] at h0; cases h0), fun j hj => ?_⟩
    rw [hB.1] at hj
    have hji : j = i := by simpa using hj
    subst hji
    exact wpOp_mono (fun a' w' h' => ⟨.inr h'.1, wpAnyS_of_ord hs rest _ _ _ hB.2 h'.2⟩) h
  | (3, i) :: rest, listed, a, w, hB, h => by
    simp only [sordB, Bool.and_eq_true] at hB
    obtain ⟨⟨hr, hf⟩, hB'⟩ := hB
    obtain ⟨o, ho, v, hy, h'⟩ := h
    exact wpAnyS_firstT ho (Region.noSelect_spec hs) (fun c a w hh => absurd hh.1 (by simp)) rest.length listed a w (Region.free_spec ho hf) (by simpa using hr) hy
      (wpAnyS_of_ord hs rest _ _ _ hB' h')
  | (2, i) :: rest, listed, a, w, hB, h => by
    simp only [sordB, Bool.and_eq_true, decide_eq_true_eq] at hB
    refine ⟨fun h0 => (by rw [hB.1.2] at h0; cases h0), fun j hj => ?_⟩
    rw [hB.1.2] at hj
    have hji : j = i := by simpa using hj
    subst hji
    exact wpOp_mono (fun a' w' h' => ⟨.inl (by simpa using hB.1.1), wpAnyS_of_ord hs rest _ _ _ hB.2 h'⟩) h
  | (k + 4, i) :: rest, listed, a, w, hB, h => by
    simp only [sordB, Bool.and_eq_true, decide_eq_true_eq] at hB
    refine ⟨fun h0 => (by rw [hB.1.2] at h0; cases h0), fun j hj => ?_⟩
    rw [hB.1.2] at hj
    have hji : j = i := by simpa using hj
    subst hji
    exact wpOp_mono (fun a' w' h' => ⟨.inl (by simpa using hB.1.1), wpAnyS_of_ord hs rest _ _ _ hB.2 h'⟩) h
def storesOf (l : List (Nat × Nat)) : List Nat := (l.filter fun x => decide (x.1 = 2)).map (·.2)
theorem wp_region_stores {id : Nat} {a : Act} {w : World} (l : List (Nat × Nat)) (hm : P.follows .mixedOrders = true)
    (hB : (Region.noSelect ops && decide (l.length = ops.size) && sordB .any ops (storesOf l) l (Array.replicate ops.size false)) = true)
    (h : wpS P ops Q l a w.drew) : (Code.region id ops true).wp P Q a w := by
  simp only [Bool.and_eq_true, decide_eq_true_eq] at hB
  obtain ⟨⟨hs, hl⟩, hB'⟩ := hB
  refine wp_region_any hm (wpAny_onlyN _ _ _ _ (wpAny_of_S (st := storesOf l) _ _ _ _ ?_))
  rw [← hl]
  exact wpAnyS_of_ord hs l _ a _ (by rw [hl]; exact hB') h
end
section
variable {P : Program} {l : List Oper} {Q : Exit → Act → World → Prop}
theorem sord_pas {i : Nat} {o : Oper} {rest : List (Nat × Nat)} {a : Act} {w : World} (ho' : opAt l i = some o)
    (h : ∀ K : Value → Act → Prop, (∀ v a', (∀ w', Grow none w w' → if Region.wanted o (yielded l.toArray a.tmps) then pasOf (· = v) w' ((execOp a.eval o).run P w') else undef = v) → wpS P l.toArray Q rest a' w → K v a') →
      if Region.wanted o (yielded l.toArray a.tmps) then pasOf (fun v => K v (a.put o.dst v)) w ((execOp a.eval o).run P w) else K undef (a.put o.dst undef)) : wpS P l.toArray Q ((0, i) :: rest) a w := by
  have ho : l.toArray[i]? = some o := (opAt_eq l i).trans ho'
  refine ⟨o, ho, ?_⟩
  cases hw : Region.wanted o (yielded l.toArray a.tmps) with
  | true =>
    simp only [hw, if_true] at h
    have h1 := h (fun v a' => (∀ w', Grow none w w' → pasOf (· = v) w' ((execOp a.eval o).run P w')) ∧ wpS P l.toArray Q rest a' w) (fun v a' h2 h3 => ⟨h2, h3⟩)
    generalize (execOp a.eval o).run P w = r at h1
    cases r with
    | ok n w' =>
      cases n <;> simp only [pasOf] at h1
      case value v => exact ⟨v, .inl ⟨hw, fun w' hr => pasOf_eq (h1.2.1 w' hr)⟩, h1.2.2⟩
    | halt x w' => exact h1.elim
  | false =>
    simp only [hw] at h
    have h1 := h (fun v a' => wpS P l.toArray Q rest a' w ∧ v = undef) (fun v a' h2 h3 => ⟨h3, (h2 w (Grow.refl none w)).symm⟩)
    exact ⟨undef, .inr ⟨hw, rfl⟩, h1.1⟩
theorem sord_pasT {i : Nat} {o : Oper} {rest : List (Nat × Nat)} {a : Act} {w : World} (ho' : opAt l i = some o)
    (h : ∀ K : Value → Act → Prop, (∀ v a', (∀ w', True → if Region.wanted o (yielded l.toArray a.tmps) then pasOf (· = v) w' ((execOp a.eval o).run P w') else undef = v) → wpS P l.toArray Q rest a' w → K v a') →
      if Region.wanted o (yielded l.toArray a.tmps) then pasOf (fun v => K v (a.put o.dst v)) w ((execOp a.eval o).run P w) else K undef (a.put o.dst undef)) : wpS P l.toArray Q ((3, i) :: rest) a w := by
  have ho : l.toArray[i]? = some o := (opAt_eq l i).trans ho'
  refine ⟨o, ho, ?_⟩
  cases hw : Region.wanted o (yielded l.toArray a.tmps) with
  | true =>
    simp only [hw, if_true] at h
    have h1 := h (fun v a' => (∀ w', True → pasOf (· = v) w' ((execOp a.eval o).run P w')) ∧ wpS P l.toArray Q rest a' w) (fun v a' h2 h3 => ⟨h2, h3⟩)
    generalize (execOp a.eval o).run P w = r at h1
    cases r with
    | ok n w' =>
      cases n <;> simp only [pasOf] at h1
      case value v => exact ⟨v, .inl ⟨hw, fun w' hr => pasOf_eq (h1.2.1 w' hr)⟩, h1.2.2⟩
    | halt x w' => exact h1.elim
  | false =>
    simp only [hw] at h
    have h1 := h (fun v a' => wpS P l.toArray Q rest a' w ∧ v = undef) (fun v a' h2 h3 => ⟨h3, (h2 w trivial).symm⟩)
    exact ⟨undef, .inr ⟨hw, rfl⟩, h1.1⟩
theorem sord_norm {rest : List (Nat × Nat)} {a : Act} {w : World} (h : ∀ K : Act → Prop, (∀ a', wpS P l.toArray Q rest a' w → K a') → K a) : wpS P l.toArray Q rest a w := h _ (fun _ h => h)
theorem sord_nil {a : Act} {w : World} (h : Q .normal a w) : wpS P l.toArray Q [] a w := h
theorem sord_act {i : Nat} {o : Oper} {rest : List (Nat × Nat)} {a : Act} {w : World} (ho' : opAt l i = some o)
    (h : ∀ K : Act → World → Prop, (∀ a' w', Grow none w w' ∧ wpS P l.toArray Q rest a' w' → K a' w') → if Region.wanted o (yielded l.toArray a.tmps) then o.wp P a w K (onlyN Q) else K (a.put o.dst undef) w) :
    wpS P l.toArray Q ((1, i) :: rest) a w := by
  have ho : l.toArray[i]? = some o := (opAt_eq l i).trans ho'
  have h1 := h _ (fun _ _ h => h)
  unfold wpS wpOp
  simp only [ho]
  split
  · rename_i hw; simp only [hw, if_true] at h1; exact .inl h1
  · rename_i hw; simp only [hw] at h1; exact h1
theorem sord_store {i : Nat} {o : Oper} {rest : List (Nat × Nat)} {a : Act} {w : World} (ho' : opAt l i = some o)
    (h : ∀ K : Act → World → Prop, (∀ a' w', wpS P l.toArray Q rest a' w' → K a' w') → if Region.wanted o (yielded l.toArray a.tmps) then o.wp P a w K (onlyN Q) else K (a.put o.dst undef) w) :
    wpS P l.toArray Q ((2, i) :: rest) a w := by
  have ho : l.toArray[i]? = some o := (opAt_eq l i).trans ho'
  have h1 := h _ (fun _ _ h => h)
  unfold wpS wpOp
  simp only [ho]
  split
  · rename_i hw; simp only [hw, if_true] at h1; exact .inl h1
  · rename_i hw; simp only [hw] at h1; exact h1
theorem sord_call {i : Nat} {o : Oper} {rest : List (Nat × Nat)} {a : Act} {w : World} (ho' : opAt l i = some o)
    (h : ∀ K : FuncId → Array Value → Prop, (∀ f args, Calls P f args w (fun e w' => ∃ v, e = .returned v ∧ Grow none w w' ∧ wpS P l.toArray Q rest (a.put o.dst v) w') → K f args) →
      Region.wanted o (yielded l.toArray a.tmps) = true ∧ callOf K w ((execOp a.eval o).run P w)) :
    wpS P l.toArray Q ((1, i) :: rest) a w := by
  have h1 := h (fun f args => Calls P f args w (fun e w' => ∃ v, e = .returned v ∧ Grow none w w' ∧ wpS P l.toArray Q rest (a.put o.dst v) w')) (fun _ _ h => h)
  refine sord_act ho' fun K hK => ?_
  rw [h1.1, if_pos rfl]
  unfold Oper.wp
  have h2 := h1.2
  generalize (execOp a.eval o).run P w = r at h2
  cases r with
  | ok n w' =>
    cases n <;> simp only [callOf] at h2 ⊢
    case enter f args =>
      obtain ⟨rfl, h2⟩ := h2
      simp only [Oper.upon]
      exact h2.mono fun e w'' ⟨v, he, hr, hk⟩ => by subst he; exact hK _ _ ⟨hr, hk⟩
  | halt x w' => exact h2.elim
end
end Go.Proofs.Ytphofjinncbaaaa
namespace Go.Proofs.Ytphofjinncbaaaa
open Go.RowKit
set_option linter.unusedVariables false

theorem Cel.put {w : World} {p : Addr} {v u : Value} (h : Cel w p v) : Cel (w.setCell p u) p u :=
  ⟨World.cell?_setCell_same _ _ _ h.1, by rw [World.frozen?_setCell]; exact h.2.1, by simpa [World.setCell] using h.2.2⟩
theorem Cel.set {w : World} {p q : Addr} {v u : Value} (h : Cel w p v) (hne : q ≠ p) : Cel (w.setCell q u) p v :=
  ⟨by rw [World.cell?_setCell_other _ _ _ _ hne]; exact h.1, by rw [World.frozen?_setCell]; exact h.2.1, by simpa [World.setCell] using h.2.2⟩
theorem Cel.drew {w : World} {p : Addr} {v : Value} (h : Cel w p v) : Cel w.drew p v := h
theorem dg_small {x : Nat} (h0 : 0 < x) (hx : x < W) : dg W x = [x] := by
  have := norm_dg (b := W) (xs := [x]) W_gt (All.cons hx All.nil) (strip_snoc (xs := []) (by omega))
  rw [this]
  simp [val]
/-- an own slice of one-cell values -/
def OwnV (T : TypeId) (B : Nat) (w : World) (A : Option Addr) (n c : Nat) (vs : List Value) : Prop := w.ownsRow B T 1 (.slice A n c) n vs
theorem OwnV.nil {T : TypeId} {B : Nat} {w : World} : OwnV T B w none 0 0 [] := World.ownsRow_nil _ _ _ _
theorem OwnV.below {T : TypeId} {B n c : Nat} {w w' : World} {A : Option Addr} {vs : List Value} (h : OwnV T B w A n c vs) (hb : Below w.heap.size w w') : OwnV T B w' A n c vs := ownsRow_below h hb
theorem wpList_appV {P : Program} {TT T : TypeId} {B : Nat} {w : World} {A : Option Addr} {n c c2 : Nat} {v : Value} {vs : List Value} {ops : Array Oper} {rest : List Oper} {o : Oper} {a : Act} {Q : Exit → Act → World → Prop} (hgd : o.guard = none) (s x : Operand)
    (ho : o.op = .call { callee := .builtin .append, args := #[s, x], argTypes := #[TT, TT] }) (he : ElemS P TT T)
    (hs : a.eval s = .slice A n c) {ad : Addr} (hx : a.eval x = .slice (some ad) 1 c2) (hown : OwnV T B w A n c vs) (hc : w.cell? ad = some v) (hv : v.oneCell' = true) (hlen : n + 1 ≤ 1099511627776) (hB : B ≤ w.heap.size)
    (h : ∀ A' c' w', OwnV T B w' A' (n + 1) c' (vs ++ [v]) → Below B w w' → wpList P ops Q rest (a.put o.dst (.slice A' (n + 1) c')) w') : wpList P ops Q (o :: rest) a w := by
  obtain ⟨hT, hinfo⟩ := he
  obtain ⟨i, hi, hz, hs1, hb⟩ := info_parts hinfo
  refine wpList_append_own_at w hgd s x TT ho B T i (.slice none 0 0) 1 24 hT hi hz hs1 hb rfl (by decide) _ n _ hs hown ad 1 c2 [v] hx rfl ?_ (by simp [hv]) (by simp only [maxLen]; omega) (by omega) hB ?_
  · intro j u hj
    rcases j with _ | j
    · simp at hj; subst hj
      have : ad.add 0 = ad := by unfold Addr.add; split <;> simp_all
      rw [this]; exact hc
    · simp at hj
  · intro v' w' h1 h2
    intros
    have hform : ∃ A' c', v' = .slice A' (n + 1) c' := by
      rcases h1.2 with ⟨h3, h4⟩ | ⟨g, cap, cur, hv, _⟩
      · omega
      · exact ⟨_, _, hv⟩
    obtain ⟨A', c', rfl⟩ := hform
    exact h A' c' w' h1 ((Below.refl _ _).grown h2 hB (fun g hg' => (World.ownsRow.lt hown g hg').1))
theorem OwnV.nums {T : TypeId} {B n c : Nat} {w : World} {A : Option Addr} {vs : List Value} {xs ls : List Nat} (h : OwnV T B w A n c vs) (hx : xs.length = n) (hl : ls.length = n) (hc : n ≤ c) (hv : ∀ i v, vs[i]? = some v → Num w v (nth xs i) (nth ls i)) : Nums w A n c xs ls := by
  refine ⟨⟨hx, hl, hc⟩, fun hn => ?_⟩
  have hvl : vs.length = n := by have := h.1; omega
  obtain ⟨g, cap, hvv, hb, hlt⟩ := World.ownsRow.form h hn
  injection hvv with hA _ hcc
  subst hA
  refine ⟨g, 0, rfl, hlt, fun i hi => ?_⟩
  refine ⟨vs[i]'(by omega), ?_, hv i _ (by rw [List.getElem?_eq_getElem])⟩
  rw [Nat.zero_add, World.ownsRow.cellAt h i (by omega), List.getElem?_eq_getElem (by omega)]
theorem OwnV.cap {T : TypeId} {B n c : Nat} {w : World} {A : Option Addr} {vs : List Value} (h : OwnV T B w A n c vs) : n ≤ c ∧ c ≤ maxLen := by
  rcases h.2 with ⟨h3, h4⟩ | ⟨g, cap, cur, hv, hg, hh, hnc, hcm, r⟩
  · injection h3 with _ e1 e2; subst e1; subst e2; exact ⟨Nat.le_refl _, Nat.zero_le _⟩
  · injection hv with _ _ e; subst e; exact ⟨hnc, hcm⟩
theorem OwnR.nums {t T : TypeId} {B n c : Nat} {w : World} {A : Option Addr} {F : Nat → List Nat → Prop} {xs ls : List Nat} (h : OwnR .u64 t T B w A n c F) (hx : xs.length = n) (hl : ls.length = n) (hF : ∀ i zs, F i zs → All W zs ∧ val W zs = nth xs i ∧ zs.length ≤ nth ls i) : Nums w A n c xs ls := by
  refine ⟨⟨hx, hl, h.cap.1⟩, fun hn => ?_⟩
  obtain ⟨g, _, _, _, _, rfl, _, hlt, _⟩ := h.at hn
  refine ⟨g, 0, rfl, hlt, fun i hi => ?_⟩
  obtain ⟨g', A', n', c', zs, eg, _, _, hc, ho, hf⟩ := h.at hi
  injection eg with eg
  injection eg with eg
  subst eg
  obtain ⟨f1, f2, f3⟩ := hF i zs hf
  exact ⟨_, by rw [Nat.zero_add]; exact hc, A', n', c', zs, rfl, ho.rd, f1, f2, by rw [← ho.len]; exact f3⟩

theorem val_take_mod {xs : List Nat} (h : All W xs) (k : Nat) : val W (xs.take k) = val W xs % W ^ k := by
  have h1 := val_take_lt h W_pos k
  have h2 : val W xs = val W (xs.take k) + W ^ k * val W (xs.drop k) := by
    have := val_append (b := W) (xs.take k) (xs.drop k)
    rw [List.take_append_drop] at this
    rw [this, List.length_take]
    by_cases hk : k ≤ xs.length
    · rw [Nat.min_eq_left hk]
    · rw [List.drop_of_length_le (by omega)]; simp [val]
  rw [h2, Nat.add_mul_mod_self_left, Nat.mod_eq_of_lt h1]
/-- one of the caller's slices, of so many words -/
def GFew (w0 w : World) (x : Nat) (e : Ending) (w' : World) : Prop := ∃ A n c, e = .returned (.slice A n c) ∧ Num w0 (.slice A n c) x 30 ∧ w = w'
theorem elNats5 : ElemS Try.prog 179 45 := ⟨Try.underlying179, by kernel_rfl⟩
/-- each list a number's: place by place -/
def FNum (xs ls : List Nat) (i : Nat) (zs : List Nat) : Prop := All W zs ∧ val W zs = nth xs i ∧ zs.length ≤ nth ls i
theorem nth_replicate {n i k : Nat} (h : i < n) : nth (List.replicate n k) i = k := by simp [nth, h]
theorem OwnV.set_low {T : TypeId} {B n c : Nat} {w : World} {A : Option Addr} {vs : List Value} {p : Addr} (h : OwnV T B w A n c vs) (hp : p.block < B) (u : Value) : OwnV T B (w.setCell p u) A n c vs := by
  refine ⟨h.1, ?_⟩
  rcases h.2 with h2 | ⟨g, cap, cur, hv, hg, hh, r⟩
  · exact .inl h2
  · refine .inr ⟨g, cap, cur, hv, hg, ?_, r⟩
    rw [Below.heap_setCell w p u g (by rintro rfl; omega)]
    exact hh
/-- the case in its box, the answer's box behind it -/
def LessB (w0 : World) (vs us : Array Value) (wr : World) : Prop :=
  Below w0.heap.size w0 wr ∧ w0.heap.size + 1 + 1 ≤ wr.heap.size ∧ (∀ i v, vs[i]? = some v → Cel wr ⟨w0.heap.size, i, none⟩ v) ∧ (∀ i v, us[i]? = some v → Cel wr ⟨w0.heap.size + 1, i, none⟩ v)
theorem LessB.start {w : World} {vs us : Array Value} {t : TypeId} : LessB w vs us (((w.alloc (.cells vs t)).alloc (.cells us t)).drew) := by
  refine ⟨((belowA w _).trans ((belowA _ _).mono (by simp))).drew, by simp [World.drew], fun i v h => ?_, fun i v h => ?_⟩
  · exact Cel.drew ((Cel.box w vs h rfl).below (belowA _ _))
  · exact Cel.drew (Cel.box _ us h (by simp))
theorem LessB.below {w0 w w' : World} {vs us : Array Value} (h : LessB w0 vs us w) (hb : Below w.heap.size w w') : LessB w0 vs us w' :=
  ⟨h.1.trans (hb.mono h.1.size), Nat.le_trans h.2.1 hb.size, fun i v e => (h.2.2.1 i v e).below hb, fun i v e => (h.2.2.2 i v e).below hb⟩
theorem LessB.step {w0 w w' : World} {vs us : Array Value} (h : LessB w0 vs us w) (hb : Below (w0.heap.size + 1 + 1) w w') : LessB w0 vs us w' := by
  have hc : ∀ {p : Addr} {v : Value}, p.block < w0.heap.size + 1 + 1 → Cel w p v → Cel w' p v := fun hp hcl => ⟨(hb.cell hp).trans hcl.1, (hb.frozen hp).trans hcl.2.1, Nat.lt_of_lt_of_le hcl.2.2 hb.size⟩
  exact ⟨h.1.trans (hb.mono (by omega)), Nat.le_trans h.2.1 hb.size, fun i v e => hc (by show w0.heap.size < _; omega) (h.2.2.1 i v e), fun i v e => hc (by show w0.heap.size + 1 < _; omega) (h.2.2.2 i v e)⟩
/-- numbers of the caller -/
def NumsV (w : World) (vs : List Value) : Prop := ∀ v, v ∈ vs → Num w v (mval w v) 30
theorem NumsV.snoc {w : World} {vs : List Value} {v : Value} {x : Nat} (h : NumsV w vs) (hv : Num w v x 30) : NumsV w (vs ++ [v]) := by
  intro u hu
  rcases List.mem_append.1 hu with h1 | h1
  · exact h u h1
  · simp at h1; subst h1; rw [mval_num hv]; exact hv
theorem NumsV.nums {T : TypeId} {w w' : World} {B n q : Nat} {A : Option Addr} {vs : List Value} (h : NumsV w vs) (ho : OwnV T B w' A n q vs) (hb : Below w.heap.size w w') : Nums w' A n q (vs.map (mval w)) (List.replicate n 30) := by
  have hvl : vs.length = n := by have := ho.1; omega
  refine ho.nums (by simp [hvl]) (by simp) ho.cap.1 fun i v hv => ?_
  have hi : i < vs.length := (List.getElem?_eq_some_iff.1 hv).1
  rw [nth_replicate (by omega)]
  have e : nth (vs.map (mval w)) i = mval w v := by simp [nth, hv]
  rw [e]
  exact (h v (List.mem_of_getElem? hv)).below hb
def set8 (b : Nat) (w : World) (u3 u4 v0 v1 v2 v3 v4 v5 : Value) : World :=
  ((((((((w.setCell ⟨b, 3, none⟩ u3).setCell ⟨b, 4, none⟩ u4).setCell ⟨b + 1, 0, none⟩ v0).setCell ⟨b + 1, 1, none⟩ v1).setCell ⟨b + 1, 2, none⟩ v2).setCell ⟨b + 1, 3, none⟩ v3).setCell ⟨b + 1, 4, none⟩ v4).setCell ⟨b + 1, 5, none⟩ v5)
theorem OwnV.set8 {T : TypeId} {B n c b : Nat} {w : World} {A : Option Addr} {vs : List Value} {u3 u4 v0 v1 v2 v3 v4 v5 : Value} (h : OwnV T B w A n c vs) (hb : b + 1 < B) : OwnV T B (set8 b w u3 u4 v0 v1 v2 v3 v4 v5) A n c vs :=
  ((((((((h.set_low (p := ⟨b, 3, none⟩) (by show b < B; omega) _).set_low (p := ⟨b, 4, none⟩) (by show b < B; omega) _).set_low (p := ⟨b + 1, 0, none⟩) hb _).set_low (p := ⟨b + 1, 1, none⟩) hb _).set_low (p := ⟨b + 1, 2, none⟩) hb _).set_low (p := ⟨b + 1, 3, none⟩) hb _).set_low (p := ⟨b + 1, 4, none⟩) hb _).set_low (p := ⟨b + 1, 5, none⟩) hb _)
theorem OwnV.mono {T : TypeId} {B B' n c : Nat} {w : World} {A : Option Addr} {vs : List Value} (h : OwnV T B w A n c vs) (hB : B' ≤ B) : OwnV T B' w A n c vs := by
  refine ⟨h.1, ?_⟩
  rcases h.2 with h2 | ⟨g, cap, cur, hv, hg, r⟩
  · exact .inl h2
  · exact .inr ⟨g, cap, cur, hv, by omega, r⟩
/-- what less answers: numbers of the caller's (world w0) -/
def LessP (T : TypeId) (w0 w : World) (a b k : Nat) (N : Int) (e : Ending) (w' : World) : Prop :=
  ∃ uA uB uK A n q vs A' m r us, e = .returned (.agg #[uA, uB, uK, .slice A n q, .slice A' m r, .int .i64 N]) ∧ (Num w0 uA a 30 ∧ Num w0 uB b 30 ∧ Num w0 uK k 30) ∧ (n ≤ 20 ∧ OwnV T w.heap.size w' A n q vs ∧ NumsV w0 vs) ∧ (m ≤ 20 ∧ OwnV T w.heap.size w' A' m r us ∧ NumsV w0 us) ∧ Below w.heap.size w w'
theorem less_fin {w0 w wr : World} {pA pB pK : Option Addr} {nA cA nB cB nK cK a b k n q m r B2 : Nat} {A A' : Option Addr} {vs us : List Value} {T : TypeId} {N : Int} {u3 u4 v0 v1 v2 v3 v4 v5 : Value}
    (h1 : Num w0 (.slice pA nA cA) a 30) (h2 : Num w0 (.slice pB nB cB) b 30) (h3 : Num w0 (.slice pK nK cK) k 30) (hb0 : Below w.heap.size w wr)
    (hn : n ≤ 20) (hv : NumsV w0 vs) (ho : OwnV T (w.heap.size + 1 + 1) wr A n q vs) (hm : m ≤ 20) (hu : NumsV w0 us) (ho' : OwnV T B2 wr A' m r us) (hB2 : w.heap.size + 1 < B2) :
    LessP T w0 w a b k N (.returned (.agg #[.slice pA nA cA, .slice pB nB cB, .slice pK nK cK, .slice A n q, .slice A' m r, .int .i64 N])) (set8 w.heap.size wr u3 u4 v0 v1 v2 v3 v4 v5) := by
  have hb : Below w.heap.size w (set8 w.heap.size wr u3 u4 v0 v1 v2 v3 v4 v5) := (((((((hb0.setCell (p := ⟨w.heap.size, 3, none⟩) (by simp) _).setCell (p := ⟨w.heap.size, 4, none⟩) (by simp) _).setCell (p := ⟨w.heap.size + 1, 0, none⟩) (by simp) _).setCell (p := ⟨w.heap.size + 1, 1, none⟩) (by simp) _).setCell (p := ⟨w.heap.size + 1, 2, none⟩) (by simp) _).setCell (p := ⟨w.heap.size + 1, 3, none⟩) (by simp) _).setCell (p := ⟨w.heap.size + 1, 4, none⟩) (by simp) _).setCell (p := ⟨w.heap.size + 1, 5, none⟩) (by simp) _
  exact ⟨_, _, _, _, _, _, _, _, _, _, _, rfl, ⟨h1, h2, h3⟩, ⟨hn, (ho.set8 (by omega)).mono (by omega), hv⟩, ⟨hm, (ho'.set8 hB2).mono (by omega), hu⟩, hb⟩
end Go.Proofs.Ytphofjinncbaaaa
namespace Go.Proofs.Ytphofjinncbaaaa
open Go.RowKit
set_option linter.unusedVariables false

theorem ext_12_18 {x y : Nat} {neg : Bool} (h : ExtOk 12 18 x y neg) : x = 2 ∧ y = 1 ∧ neg = true := by
  obtain ⟨h1, _, h3⟩ := h
  have e : Nat.gcd 12 18 = 6 := by decide
  rw [e] at h1 h3
  have h4 := h3 (by omega)
  rcases h1 with ⟨h5, h6, h7⟩ | ⟨h5, h6⟩
  · exact ⟨by omega, by omega, h5⟩
  · omega
end Go.Proofs.Ytphofjinncbaaaa
namespace Go.Proofs.Ytphofjinncbaaaa
open Go.RowKit
set_option linter.unusedVariables false

/-- an inverse, or none -/
def GInv (w : World) (a m L : Nat) (e : Ending) (w' : World) : Prop :=
  ∃ A n c er, e = .returned (.tuple #[.slice A n c, .int .i64 er]) ∧ Below w.heap.size w w' ∧ n ≤ L ∧
    Hid ((0 < m ∧ Nat.gcd a m = 1 ∧ er = 0 ∧ ∃ x, x < m ∧ Cong m a 1 x ∧ Own .u64 76 w.heap.size w' A n c (dg W x)) ∨ (n = 0 ∧ A = none ∧ c = 0 ∧ (m = 0 ∧ er = 1 ∨ 0 < m ∧ Nat.gcd a m ≠ 1 ∧ er = 4)))
/-- how often: b^n * s = a, and b doesn't divide s -/
def CntOk (a b n s : Nat) : Prop := b ^ n * s = a ∧ s % b ≠ 0
theorem CntOk.uniq {a b n s n' s' : Nat} (h : CntOk a b n s) (h' : CntOk a b n' s') (hb : 2 ≤ b) : n = n' ∧ s = s' := by
  have key : ∀ {n s n' s' : Nat}, CntOk a b n s → CntOk a b n' s' → ¬ n < n' := by
    intro n s n' s' h h' hlt
    obtain ⟨k, rfl⟩ : ∃ k, n' = n + (k + 1) := ⟨n' - n - 1, by omega⟩
    have e : b ^ n * s = b ^ n * (b ^ (k + 1) * s') := by rw [h.1, ← h'.1, Nat.pow_add, Nat.mul_assoc]
    have e2 := Nat.eq_of_mul_eq_mul_left (Nat.pow_pos (by omega)) e
    apply h.2
    rw [e2, Nat.pow_succ, Nat.mul_comm (b ^ k), Nat.mul_assoc]
    exact Nat.mul_mod_right _ _
  have hn : n = n' := Nat.le_antisymm (Nat.le_of_not_lt (key h' h)) (Nat.le_of_not_lt (key h h'))
  subst hn
  refine ⟨rfl, Nat.eq_of_mul_eq_mul_left (Nat.pow_pos (by omega)) (h.1.trans h'.1.symm)⟩
theorem cnt_le {a b n s : Nat} (h : b ^ n * s = a) (hb : 2 ≤ b) (ha : 0 < a) : n ≤ nb a := by
  have hs : 0 < s := by
    rcases Nat.eq_zero_or_pos s with h0 | h0
    · subst h0; simp at h; omega
    · exact h0
  have h1 : b ^ n * 1 ≤ b ^ n * s := Nat.mul_le_mul_left _ hs
  have h2 : 2 ^ n ≤ b ^ n := Nat.pow_le_pow_left hb _
  have h3 := nb_lt a
  have := (Nat.pow_lt_pow_iff_right (show 1 < 2 by omega)).1 (show 2 ^ n < 2 ^ nb a by omega)
  omega
def GCnt (w : World) (a b L : Nat) (e : Ending) (w' : World) : Prop :=
  ∃ (n s : Nat) (A : Option Addr) (m c : Nat), e = .returned (.tuple #[.int .i64 (n : Int), .slice A m c, .int .i64 0]) ∧ CntOk a b n s ∧ Own .u64 76 w.heap.size w' A m c (dg W s) ∧ Below w.heap.size w w' ∧ m ≤ L ∧ n ≤ nb a
end Go.Proofs.Ytphofjinncbaaaa
namespace Go.Proofs.Ytphofjinncbaaaa
open Go.RowKit
set_option linter.unusedVariables false

theorem val_topD (n p : Nat) : val D ((List.replicate (n + 1) 0).set n p) = D ^ n * p := by
  have e : (List.replicate (n + 1) 0).set n p = List.replicate n 0 ++ [p] := by
    rw [List.replicate_succ', List.set_append_right _ _ (by simp)]
    simp
  rw [e, val_append, val_replicate, List.length_replicate]
  simp [val]
theorem nth_setrep (n p : Nat) : nth ((List.replicate (n + 1) 0).set n p) n = p := by
  simp [nth]
theorem two16_split (i : Nat) : D ^ (i / 16) * 2 ^ (i % 16) = 2 ^ i := by
  rw [show D = 2 ^ 16 from rfl, ← Nat.pow_mul, ← Nat.pow_add]
  congr 1; omega
theorem cmp_eq (x y : Nat) : (cmpN x y == 0) = decide (x = y) := by
  unfold cmpN; split
  · rw [decide_eq_false (by omega)]; decide
  · split
    · rw [decide_eq_false (by omega)]; decide
    · rw [decide_eq_true (by omega)]; decide
theorem cmp_gt (x y : Nat) : decide ((0 : Int) < cmpN x y) = decide (y < x) := by
  unfold cmpN; split
  · rw [decide_eq_false (p := y < x) (by omega)]; decide
  · split
    · rw [decide_eq_true (p := y < x) (by omega)]; decide
    · rw [decide_eq_false (p := y < x) (by omega)]; decide
theorem cmp_leq (x y : Nat) : decide (cmpN x y ≤ 0) = decide (x ≤ y) := by
  unfold cmpN; split
  · rw [decide_eq_true (p := x ≤ y) (by omega)]; decide
  · split
    · rw [decide_eq_false (p := x ≤ y) (by omega)]; decide
    · rw [decide_eq_true (p := x ≤ y) (by omega)]; decide
theorem pow_stop {s i N a : Nat} (h : a < s ^ (i + 1)) (hi : i + 1 ≤ N) : ¬ s ^ N ≤ a := by
  rcases Nat.eq_zero_or_pos s with h0 | h0
  · subst h0; rw [Nat.zero_pow (by omega)] at h; omega
  · have := Nat.pow_le_pow_right h0 hi; omega
theorem num_one_le {v : Value} {x L : Nat} {w : World} (h : Num w v x L) (hx : 0 < x) : 1 ≤ L := by
  have := h.lt
  rcases Nat.eq_zero_or_pos L with h0 | h0
  · rw [h0, Nat.pow_zero] at this; omega
  · exact h0
theorem cnt_exists {a b : Nat} (ha : 0 < a) (hb : 2 ≤ b) : ∃ n s, CntOk a b n s := by
  induction a using Nat.strongRecOn with
  | _ a ih =>
    by_cases h : a % b = 0
    · have e : a = b * (a / b) := by have := Nat.mod_add_div a b; omega
      have h1 : 0 < a / b := by
        rcases Nat.eq_zero_or_pos (a / b) with h1 | h1
        · rw [h1, Nat.mul_zero] at e; omega
        · exact h1
      obtain ⟨n, s, h2, h3⟩ := ih (a / b) (Nat.div_lt_self ha hb) h1
      exact ⟨n + 1, s, by rw [Nat.pow_succ, Nat.mul_comm _ b, Nat.mul_assoc, h2, ← e], h3⟩
    · exact ⟨0, a, by simp, h⟩
/-- a slice to read, a Bool (a count), an error's number -/
def GRx (w : World) (xs : List Nat) (ex : Bool) (er : Int) (L : Nat) (e : Ending) (w' : World) : Prop :=
  ∃ A n c, e = .returned (.tuple #[.slice A n c, .bool ex, .int .i64 er]) ∧ Below w.heap.size w w' ∧ n ≤ L ∧ Rd .u64 w' A n c xs
def GCx (w : World) (xs : List Nat) (cn er : Int) (L : Nat) (e : Ending) (w' : World) : Prop :=
  ∃ A n c, e = .returned (.tuple #[.int .i64 cn, .slice A n c, .int .i64 er]) ∧ Below w.heap.size w w' ∧ n ≤ L ∧ Rd .u64 w' A n c xs
theorem rd_none {k : IntKind} {w : World} : Rd k w none 0 0 [] := Rd.nil
end Go.Proofs.Ytphofjinncbaaaa
namespace Go.Proofs.Ytphofjinncbaaaa
open Go.RowKit
set_option linter.unusedVariables false

/-- block b holds cells of the type T -/
def BoxT (T : TypeId) (b : Nat) (w : World) : Prop := ∃ vs z, w.heap[b]? = some (.cells vs T z)
theorem BoxT.lt {T : TypeId} {b : Nat} {w : World} (h : BoxT T b w) : b < w.heap.size := by
  obtain ⟨vs, z, h⟩ := h
  exact (Array.getElem?_eq_some_iff.1 h).1
theorem BoxT.set {T : TypeId} {b : Nat} {w : World} {p : Addr} {u : Value} (h : BoxT T b w) : BoxT T b (w.setCell p u) := by
  obtain ⟨vs, z, h⟩ := h
  unfold BoxT World.setCell
  rw [Array.getElem?_modify]
  split
  · rw [h]; exact ⟨_, _, rfl⟩
  · exact ⟨_, _, h⟩
theorem Own.set_ty {k : IntKind} {t T : TypeId} {B n c : Nat} {w : World} {A : Option Addr} {xs : List Nat} {p : Addr} {u : Value} (h : Own k t B w A n c xs) (hb : BoxT T p.block w) (hT : T ≠ t) : Own k t B (w.setCell p u) A n c xs := by
  refine ⟨h.1, ?_⟩
  rcases h.2 with h2 | ⟨g, cap, cur, hv, hg, hh, r⟩
  · exact .inl h2
  · refine .inr ⟨g, cap, cur, hv, hg, ?_, r⟩
    rw [Below.heap_setCell w p u g (by
      rintro rfl
      obtain ⟨vs, z, hb⟩ := hb
      rw [hb] at hh
      injection hh with hh
      injection hh with _ hh
      exact hT hh)]
    exact hh
theorem Cel.at {w : World} {p : Addr} {v : Value} (h : Cel w p v) : At w p v := ⟨h.1, h.2.2⟩
theorem At.set_ne {w : World} {p q : Addr} {v u : Value} (h : At w p v) (hne : q.block ≠ p.block) : At (w.setCell q u) p v :=
  ⟨by rw [World.cell?_setCell_other _ _ _ _ (by rintro rfl; exact hne rfl)]; exact h.1, by simpa [World.setCell] using h.2⟩
/-- a variable's new memory -/
def FBox (B : Nat) (T : TypeId) (vs : Array Value) (v : Value) (w : World) : Prop := ∃ b, v = .pointer (some ⟨b, 0, none⟩) ∧ B ≤ b ∧ w.heap[b]? = some (.cells vs T (0, 0))
theorem FBox.grow {B : Nat} {T : TypeId} {vs : Array Value} {v : Value} {w w' : World} (h : FBox B T vs v w) (hR : Grow none w w') : FBox B T vs v w' := by
  obtain ⟨b, e, hB, hh⟩ := h
  obtain ⟨_, _, _, _, h5⟩ := hR
  exact ⟨b, e, hB, (h5 b (Array.getElem?_eq_some_iff.1 hh).1 (by simp)).trans hh⟩
theorem cel_of {T : TypeId} {vs : Array Value} {w : World} {b j : Nat} {u : Value} (h : w.heap[b]? = some (.cells vs T (0, 0))) (hj : vs[j]? = some u) : Cel w ⟨b, j, none⟩ u := by
  refine ⟨?_, ?_, (Array.getElem?_eq_some_iff.1 h).1⟩
  · simp only [World.cell?, h, hj]; rfl
  · simp only [World.frozen?, h]; simp
theorem At.growB {w : World} {p : Addr} {v : Value} (h : At w p v) : ∀ w', KB w.heap.size w.drew w' → w'.cell? p = some v := fun w' g => (g.cell (p := p) h.2 h.2).trans h.1
section
variable {P : Program} {l : List Oper} {Q : Exit → Act → World → Prop} {R R1 : World → World → Prop} {G : Nat → Value → World → Prop}
theorem flt_alloc {i : Nat} {o : Oper} {rest : List (Nat × Nat)} {a : Act} {w : World} (B : Nat) (T : TypeId) (vs : Array Value) (ho' : opAt l i = some o) (hg : o.guard = none)
    (hrun : ∀ w1, (execOp a.eval o).run P w1 = .ok (.value (.pointer (some ⟨w1.heap.size, 0, none⟩))) (w1.alloc (.cells vs T))) (hB : B ≤ w.heap.size)
    (h : wpF P l.toArray Q R (Grow none) rest (fun j => if j = i then FBox B T vs else G j) a w) : wpF P l.toArray Q R (Grow none) ((2, i) :: rest) G a w := by
  have ho : l.toArray[i]? = some o := (opAt_eq l i).trans ho'
  refine ⟨o, ho, FBox B T vs, fun v w w' hF hR => FBox.grow hF hR, ⟨by simp [Region.wanted, hg], fun w1 h1 => ?_⟩, h⟩
  refine ⟨_, _, hrun w1, Grow.of_below ((Below.refl _ _).alloc (Nat.le_refl _) _), ⟨_, rfl, Nat.le_trans hB h1.below.size, heap_alloc_new _ _⟩, fun p hp => ?_⟩
  injection hp with hp
  subst hp
  exact ⟨Nat.le_refl _, by simp⟩
end
/-- all but two blocks stay -/
def KE (b1 b2 : Nat) (w w' : World) : Prop := (w'.os = w.os ∧ w'.tape = w.tape ∧ w'.output = w.output) ∧ w.heap.size ≤ w'.heap.size ∧ ∀ i, i ≠ b1 → i ≠ b2 → i < w.heap.size → w'.heap[i]? = w.heap[i]?
theorem KE.refl (b1 b2 : Nat) (w : World) : KE b1 b2 w w := ⟨⟨rfl, rfl, rfl⟩, Nat.le_refl _, fun _ _ _ _ => rfl⟩
theorem KE.trans (b1 b2 : Nat) (a b c : World) (h : KE b1 b2 a b) (k : KE b1 b2 b c) : KE b1 b2 a c :=
  ⟨⟨k.1.1.trans h.1.1, k.1.2.1.trans h.1.2.1, k.1.2.2.trans h.1.2.2⟩, Nat.le_trans h.2.1 k.2.1, fun i h1 h2 hl => (k.2.2 i h1 h2 (Nat.lt_of_lt_of_le hl h.2.1)).trans (h.2.2 i h1 h2 hl)⟩
theorem KE.of_grow (b1 b2 : Nat) (a b : World) (h : Grow none a b) : KE b1 b2 a b := by
  obtain ⟨h1, h2, h3, h4, h5⟩ := h
  exact ⟨⟨h1, h2, h3⟩, h4, fun i _ _ hl => h5 i hl (by simp)⟩
theorem KE.set2 {b1 b2 b i j : Nat} {w : World} {u1 u2 : Value} (hb : b = b1 ∨ b = b2) : KE b1 b2 w ((w.setCell ⟨b, i, none⟩ u1).setCell ⟨b, j, none⟩ u2) :=
  ⟨⟨rfl, rfl, rfl⟩, by simp [World.setCell], fun k h1 h2 _ => by
    rw [Below.heap_setCell _ _ _ k (by show k ≠ b; omega), Below.heap_setCell _ _ _ k (by show k ≠ b; omega)]⟩
theorem At.growE {w : World} {p : Addr} {v : Value} {b1 b2 : Nat} (h : At w p v) (h1 : p.block ≠ b1) (h2 : p.block ≠ b2) : ∀ w', KE b1 b2 w.drew w' → w'.cell? p = some v := fun w' g => by
  have e := g.2.2 p.block h1 h2 h.2
  have := h.1
  unfold World.cell? at this ⊢
  rw [e]
  exact this
section
variable {P : Program} {l : List Oper} {Q : Exit → Act → World → Prop} {R1 : World → World → Prop} {G : Nat → Value → World → Prop} {b1 b2 : Nat}
theorem flt_pasE {i : Nat} {o : Oper} {rest : List (Nat × Nat)} {a : Act} {w : World} (ho' : opAt l i = some o)
    (h : ∀ K : Value → Act → Prop, (∀ v a', (∀ w', KE b1 b2 w w' → if Region.wanted o (yielded l.toArray a.tmps) then pasOf (· = v) w' ((execOp a.eval o).run P w') else undef = v) → wpF P l.toArray Q (KE b1 b2) R1 rest G a' w → K v a') →
      if Region.wanted o (yielded l.toArray a.tmps) then pasOf (fun v => K v (a.put o.dst v)) w ((execOp a.eval o).run P w) else K undef (a.put o.dst undef)) : wpF P l.toArray Q (KE b1 b2) R1 ((0, i) :: rest) G a w := flt_pas ho' h (KE.refl _ _ _)
end
theorem KB.set2 {B b i j : Nat} {w : World} {u1 u2 : Value} (hb : B ≤ b) : KB B w ((w.setCell ⟨b, i, none⟩ u1).setCell ⟨b, j, none⟩ u2) :=
  KB.of_le (((Below.refl B w).setCell (p := ⟨b, i, none⟩) hb u1).setCell (p := ⟨b, j, none⟩) hb u2) (Nat.le_refl _)
theorem KB.below {B : Nat} {w w' : World} (h : KB B w w') (hB : w.heap.size ≤ B) : Below w.heap.size w w' :=
  ⟨h.1.1, h.1.2.1, h.1.2.2, h.2.1, fun i hi => h.2.2 i (Nat.lt_of_lt_of_le hi hB) hi⟩
end Go.Proofs.Ytphofjinncbaaaa
namespace Go.Proofs.Ytphofjinncbaaaa
open Go.RowKit
set_option linter.unusedVariables false
theorem sg_exact {s t : Bool} {x y : Nat} {k : Int} (h : sg s x = k * sg t y) (hy : 0 < y) : sg (s != t) (x / y) = k := by
  have hk : x = k.natAbs * y := by
    have := congrArg Int.natAbs h
    rwa [sg_abs, Int.natAbs_mul, sg_abs] at this
  rw [hk, Nat.mul_div_cancel _ hy]
  have e2 : sg (s != t) k.natAbs * sg t y = k * sg t y := by
    rw [← h, hk, ← sg_mul]
    cases s <;> cases t <;> rfl
  have hy0 : sg t y ≠ 0 := by unfold sg; split <;> omega
  exact Int.eq_of_mul_eq_mul_right hy0 e2
theorem mod_pos {x m : Nat} : (((x : Int) % (m : Int)).toNat) = x % m := by
  rw [← Int.natCast_emod, Int.toNat_natCast]
theorem mod_neg0 {x m : Nat} (h : x % m = 0) : ((-(x : Int) % (m : Int)).toNat) = x % m := by
  have h1 : (m : Int) ∣ -(x : Int) := Int.dvd_neg.2 (Int.natCast_dvd_natCast.2 (Nat.dvd_of_mod_eq_zero h))
  rw [Int.emod_eq_zero_of_dvd h1, h]; rfl
theorem mod_negp {x m : Nat} (hm : 0 < m) (h : 0 < x % m) : ((-(x : Int) % (m : Int)).toNat) = m - x % m := by
  have hlt := Nat.mod_lt x hm
  have e : (x : Int) = (m : Int) * ((x / m : Nat) : Int) + ((x % m : Nat) : Int) := by rw [← Int.natCast_mul, ← Int.natCast_add, Nat.div_add_mod]
  have e2 : -(x : Int) = ((m - x % m : Nat) : Int) + (m : Int) * (-((x / m : Nat) : Int) - 1) := by
    rw [Int.natCast_sub (Nat.le_of_lt hlt), Int.mul_sub, Int.mul_neg]; omega
  rw [e2, Int.add_mul_emod_self_left, Int.emod_eq_of_lt (by omega) (by omega), Int.toNat_natCast]
end Go.Proofs.Ytphofjinncbaaaa
namespace Go.Proofs.Ytphofjinncbaaaa
open Go.RowKit
set_option linter.unusedVariables false

def SomeOk (a b : Nat) (z : Int) : Prop := (∃ k : Int, z * (a : Int) = (Nat.gcd a b : Int) + (b : Int) * k) ∧ z.natAbs ≤ max 1 b
theorem some_one {a b : Nat} (h : b % a = 0) : SomeOk a b 1 := by
  refine ⟨⟨0, ?_⟩, ?_⟩
  · rw [Nat.gcd_eq_left (Nat.dvd_of_mod_eq_zero h)]; omega
  · show 1 ≤ _; omega
theorem some_step {a b : Nat} {y k : Int} (ha : 0 < a) (hr : 0 < b % a) (h1 : y * ((b % a : Nat) : Int) = (Nat.gcd (b % a) a : Int) + (a : Int) * k) (h2 : y.natAbs ≤ max 1 a) :
    SomeOk a b (-(y * ((b / a : Nat) : Int) + k)) := by
  have hb : (b : Int) = (a : Int) * ((b / a : Nat) : Int) + ((b % a : Nat) : Int) := by rw [← Int.natCast_mul, ← Int.natCast_add, Nat.div_add_mod]
  have hbn : b = a * (b / a) + b % a := (Nat.div_add_mod b a).symm
  have hlt : b % a < a := Nat.mod_lt b ha
  have hG : Nat.gcd (b % a) a ≤ b % a := Nat.gcd_le_left a hr
  have hg : Nat.gcd a b = Nat.gcd (b % a) a := Nat.gcd_rec a b
  generalize b / a = q at *
  generalize b % a = r at *
  rw [SomeOk, hg]
  generalize Nat.gcd r a = G at *
  have h2 : y.natAbs ≤ a := by omega
  have hk : k.natAbs ≤ r := by
    rcases Nat.lt_or_ge r k.natAbs with h3 | h3
    · exfalso
      have e1 : a * (r + 1) ≤ a * k.natAbs := Nat.mul_le_mul_left _ h3
      have e2 : a * k.natAbs ≤ y.natAbs * r + G := by
        have e3 : (a : Int) * k = y * (r : Int) + -(G : Int) := by omega
        have e4 := congrArg Int.natAbs e3
        rw [Int.natAbs_mul, Int.natAbs_natCast] at e4
        rw [e4]
        refine Nat.le_trans (Int.natAbs_add_le _ _) ?_
        rw [Int.natAbs_mul, Int.natAbs_neg, Int.natAbs_natCast, Int.natAbs_natCast]
        exact Nat.le_refl _
      have e5 : y.natAbs * r ≤ a * r := Nat.mul_le_mul_right _ h2
      rw [Nat.mul_add] at e1
      omega
    · exact h3
  refine ⟨⟨-y, ?_⟩, ?_⟩
  · rw [hb]
    have e1 : -(y * (q : Int) + k) * (a : Int) = -((a : Int) * (q : Int) * y) - (a : Int) * k := by
      rw [Int.neg_mul, Int.add_mul, Int.mul_comm k, Int.mul_assoc, Int.mul_comm y, Int.mul_comm (q : Int)]; omega
    have e2 : ((a : Int) * (q : Int) + (r : Int)) * -y = -((a : Int) * (q : Int) * y) - y * (r : Int) := by
      rw [Int.mul_neg, Int.add_mul, Int.mul_comm (r : Int)]; omega
    rw [e1, e2, h1]
    omega
  · have e1 : (y * (q : Int) + k).natAbs ≤ a * q + r := by
      refine Nat.le_trans (Int.natAbs_add_le _ _) ?_
      rw [Int.natAbs_mul, Int.natAbs_natCast]
      have := Nat.mul_le_mul_right q h2
      omega
    rw [Int.natAbs_neg]
    omega
def GS (w : World) (a b K : Nat) (e : Ending) (w' : World) : Prop := ∃ z, SomeOk a b z ∧ GI w z K e w'
theorem some_lt {a b K : Nat} {z : Int} (h : SomeOk a b z) (hb : b < W ^ K) (hK : 1 ≤ K) : z.natAbs < W ^ K := by
  have h1 : W ^ 1 ≤ W ^ K := Nat.pow_le_pow_right W_pos hK
  have h2 := W_gt
  rw [Nat.pow_one] at h1
  have := h.2
  omega
theorem extok_of {a b x : Nat} {k : Int} (hb : 0 < b) (h : (Nat.gcd a b : Int) - (x : Int) * (a : Int) = k * (b : Int)) (hx : x < b / Nat.gcd a b) : ExtOk a b x k.natAbs (decide (k < 0)) := by
  have e : (x : Int) * (a : Int) = ((x * a : Nat) : Int) := (Int.natCast_mul x a).symm
  rw [e] at h
  refine ⟨?_, fun h0 => by omega, fun _ => hx⟩
  by_cases hk : k < 0
  · left
    obtain ⟨j, rfl⟩ : ∃ j : Nat, k = -(j : Int) := ⟨k.natAbs, by omega⟩
    rw [Int.neg_mul, ← Int.natCast_mul] at h
    rw [Int.natAbs_neg, Int.natAbs_natCast]
    refine ⟨decide_eq_true hk, by omega, by omega⟩
  · right
    obtain ⟨j, rfl⟩ : ∃ j : Nat, k = (j : Int) := ⟨k.natAbs, by omega⟩
    rw [← Int.natCast_mul] at h
    rw [Int.natAbs_natCast]
    refine ⟨decide_eq_false hk, by omega⟩
theorem ext_part {a b : Nat} (hb : 0 < b) : 0 < b / Nat.gcd a b := Nat.div_pos (Nat.le_of_dvd hb (Nat.gcd_dvd_right a b)) (Nat.gcd_pos_of_pos_right a hb)
theorem ext_law {a b : Nat} {z : Int} (hb : 0 < b) (hz : SomeOk a b z) :
    ∃ k : Int, (Nat.gcd a b : Int) - (((z % ((b / Nat.gcd a b : Nat) : Int)).toNat : Nat) : Int) * (a : Int) = k * (b : Int) ∧ (z % ((b / Nat.gcd a b : Nat) : Int)).toNat < b / Nat.gcd a b := by
  have hp := ext_part (a := a) hb
  obtain ⟨⟨j, hj⟩, _⟩ := hz
  obtain ⟨d, hd⟩ := Nat.gcd_dvd_left a b
  obtain ⟨p, hp2⟩ := Nat.gcd_dvd_right a b
  have hg : 0 < Nat.gcd a b := Nat.gcd_pos_of_pos_right a hb
  have hbp : b / Nat.gcd a b = p := by conv => lhs; arg 1; rw [hp2]
                                       exact Nat.mul_div_cancel_left p hg
  rw [hbp] at hp ⊢
  generalize Nat.gcd a b = g at *
  have h0 : 0 ≤ z % (p : Int) := Int.emod_nonneg _ (by omega)
  have h1 : z % (p : Int) < (p : Int) := Int.emod_lt_of_pos _ (by omega)
  have h2 := Int.mul_ediv_add_emod z (p : Int)
  refine ⟨(z / (p : Int)) * (d : Int) - j, ?_, by omega⟩
  rw [Int.toNat_of_nonneg h0]
  have ea : (a : Int) = (g : Int) * (d : Int) := by rw [← Int.natCast_mul, ← hd]
  have eb : (b : Int) = (g : Int) * (p : Int) := by rw [← Int.natCast_mul, ← hp2]
  have e3 : z % (p : Int) = z - (p : Int) * (z / (p : Int)) := by omega
  have e4 : (z - (p : Int) * (z / (p : Int))) * (a : Int) = z * (a : Int) - (z / (p : Int)) * (d : Int) * (b : Int) := by
    rw [Int.sub_mul, ea, eb]
    congr 1
    rw [Int.mul_comm (p : Int), Int.mul_assoc, Int.mul_assoc, Int.mul_left_comm (p : Int), Int.mul_left_comm (d : Int), Int.mul_comm (p : Int)]
  rw [e3, e4, hj, Int.sub_mul, Int.mul_comm j]
  omega
end Go.Proofs.Ytphofjinncbaaaa
namespace Go.Proofs.Ytphofjinncbaaaa
open Go.RowKit
set_option linter.unusedVariables false

theorem At.growN {w : World} {p : Addr} {v : Value} (h : At w p v) : ∀ w', Grow none w.drew w' → w'.cell? p = some v := At.grow h
end Go.Proofs.Ytphofjinncbaaaa
