/-
  The document's tools of arithmetic (surdref05): Zero, Bits. Integers: sign and size. What a call gives that answers an integer in its own form. The document's tools (surdref05): Cmp, Minus, I, Z, Neg, Add, Sub, Mul, Exact, SameInt. The document's divisors (surdref05): Gcd, All, Lcm, AllLcm, Coprime; gcd.AllLcm. The n-th root, rounded down, in plain Lean. Walks: gcd.two, power, Root, Sqrt.
-/
import Derived.Test.YtjglonmnjcnhbaaDoorRef5X
import Derived.Test.YtjglonmnjcnhbaaDoorDigQ
import Derived.Test.YtjglonmnjcnhbaaDoorGcd
import Derived.Test.YtjglonmnjcnhbaaDoorGcdD
import Derived.Test.YtjglonmnjcnhbaaDoorPowX
import Derived.Test.YtjglonmnjcnhbaaDoorNatB
namespace Go.Proofs.YtjglonmnjcnhbaaDoor
open Go.RowKit
set_option linter.unusedVariables false

set_option maxHeartbeats 400000 in
theorem zero5_any {v : Value} {x L : Nat} {w : World} (h : Num w v x L) (hL : L ≤ 17179869184) : Calls Tryd.prog 11 #[v] w (Keeps (.bool (decide (x = 0))) w) := by
  have C := Lib.hid (digits5_any h (by omega))
  obtain ⟨_, _, _, _, rfl, _⟩ := id h
  clear h
  go_enter Tryd.func11, Tryd.ntmps11
  go_wp2_with fail
  refine C.out.mono ?_
  rintro e w1 ⟨A, n, c, rfl, ho, hb⟩
  have HB := Lib.hid hb
  have hq : ((n : Int) == 0) = decide (x = 0) := by
    have e1 : n = 0 ↔ x = 0 := by rw [← dg_nil_iff D_gt (x := x), ← List.length_eq_zero_iff, ho.len]
    by_cases h0 : x = 0
    · rw [decide_eq_true h0, beq_iff_eq]; have := e1.2 h0; omega
    · rw [decide_eq_false h0, beq_eq_false_iff_ne]
      intro h1
      exact h0 (e1.1 (by omega))
  generalize decide (x = 0) = bb at *
  clear ho hb
  go_wp2
  go_ret
  exact ⟨rfl, HB.out⟩
set_option maxHeartbeats 400000 in
theorem bits5_any {v : Value} {x L : Nat} {w : World} (h : Num w v x L) (hL : L ≤ 1073741824) : Calls Tryd.prog 35 #[v] w (Keeps (.int .i64 ((nb x : Nat) : Int)) w) := by
  obtain ⟨A, n, c, xs, rfl, h1, h2, rfl, h4⟩ := h
  have C := Lib.hid (rbits1_any h1 h2 (by omega))
  clear h1 h2
  go_enter Tryd.func35, Tryd.ntmps35
  go_wp2_with fail
  refine C.out.mono ?_
  rintro e w1 ⟨rfl, hb⟩
  go_wp2
  go_ret
  exact ⟨rfl, hb⟩
end Go.Proofs.YtjglonmnjcnhbaaDoor
namespace Go.Proofs.YtjglonmnjcnhbaaDoor
open Go.RowKit
set_option linter.unusedVariables false

/-- the integer of a sign and a size -/
def sg (s : Bool) (x : Nat) : Int := if s = true then -(x : Int) else (x : Int)
theorem sg_false (x : Nat) : sg false x = (x : Int) := rfl
theorem sg_true (x : Nat) : sg true x = -(x : Int) := rfl
theorem sg_of {s : Bool} {z : Int} (h : s = decide (z < 0)) : sg s z.natAbs = z := by
  subst h
  unfold sg
  split
  · rename_i h; have : z < 0 := by simpa using h
    omega
  · rename_i h; have : ¬ z < 0 := by simpa using h
    omega
theorem sg_abs (s : Bool) (x : Nat) : (sg s x).natAbs = x := by unfold sg; split <;> simp
theorem sg_neg (s : Bool) (x : Nat) : decide (sg s x < 0) = (s && decide (0 < x)) := by
  unfold sg
  cases s
  · simp
  · simp
theorem sg_not (s : Bool) (x : Nat) : sg (!s) x = -sg s x := by unfold sg; cases s <;> simp
/-- a new integer in its own form -/
def GI (w : World) (z : Int) (L : Nat) (e : Ending) (w' : World) : Prop :=
  ∃ A n c s, e = .returned (.agg #[.bool s, .slice A n c]) ∧ Hid (s = decide (z < 0)) ∧ Own .u64 27 w.heap.size w' A n c (dg W z.natAbs) ∧ Below w.heap.size w w' ∧ n ≤ L
theorem GI.eq {w w' : World} {z z' : Int} {L : Nat} {e : Ending} (h : GI w z L e w') (hz : z = z') : GI w z' L e w' := hz ▸ h
theorem GI.mono {w w' : World} {z : Int} {L L' : Nat} {e : Ending} (h : GI w z L e w') (hL : L ≤ L') : GI w z L' e w' := by
  obtain ⟨A, n, c, s, h1, h2, h3, h4, h5⟩ := h
  exact ⟨A, n, c, s, h1, h2, h3, h4, by omega⟩
theorem Own.cells2 {k : IntKind} {t : TypeId} {B n c b : Nat} {w : World} {A : Option Addr} {xs : List Nat} {u1 u2 : Value} (h : Own k t B w A n c xs) (hp : b < B) : Own k t B ((w.setCell ⟨b, 0, none⟩ u1).setCell ⟨b, 1, none⟩ u2) A n c xs :=
  (h.set_low (p := ⟨b, 0, none⟩) hp u1).set_low (p := ⟨b, 1, none⟩) hp u2
theorem below_cells2 {B b : Nat} {w w' : World} {u1 u2 : Value} (h : Below B w w') (hb : B ≤ b) : Below B w ((w'.setCell ⟨b, 0, none⟩ u1).setCell ⟨b, 1, none⟩ u2) :=
  (h.setCell (p := ⟨b, 0, none⟩) hb u1).setCell (p := ⟨b, 1, none⟩) hb u2
theorem At.growS {w : World} {p : Addr} {v : Value} {b : Nat} (h : At w p v) (hne : p.block ≠ b) : ∀ w', Grow (some b) w.drew w' → w'.cell? p = some v := fun w' g => g.cell (p := p) (v := v) h.1 (by simpa using hne)
/-- the end of a walk that answers one integer -/
theorem gi_fin {w wb w' : World} {z : Int} {L b n c : Nat} {s : Bool} {A : Option Addr} {u1 u2 : Value} (hs : s = decide (z < 0)) (ho : Own .u64 27 wb.heap.size w' A n c (dg W z.natAbs)) (hb : Below w.heap.size w w') (hwb : w.heap.size ≤ b ∧ b < wb.heap.size) (hl : n ≤ L) :
    GI w z L (.returned (.agg #[.bool s, .slice A n c])) ((w'.setCell ⟨b, 0, none⟩ u1).setCell ⟨b, 1, none⟩ u2) :=
  ⟨A, n, c, s, rfl, hs, (ho.cells2 hwb.2).mono (by omega), below_cells2 hb hwb.1, hl⟩

theorem At.boxc {i : Nat} {v : Value} {t : TypeId} {b : Nat} (w : World) (vs : Array Value) (h : vs[i]? = some v) (hb : b = w.heap.size) : At (w.alloc (.cells vs t)) ⟨b, i, none⟩ v := by
  subst hb; exact At.box w vs h
theorem sg_mul (s t : Bool) (x y : Nat) : sg (s != t) (x * y) = sg s x * sg t y := by
  unfold sg
  cases s <;> cases t <;> simp [Int.neg_mul, Int.mul_neg]
theorem sg_same (s : Bool) (x y : Nat) : sg s (x + y) = sg s x + sg s y := by
  unfold sg
  cases s <;> simp [Int.neg_add]
theorem sg_diff {s t : Bool} (h : s ≠ t) {x y : Nat} (hle : y ≤ x) : sg s (x - y) = sg s x + sg t y := by
  unfold sg
  cases s <;> cases t <;> simp at h ⊢ <;> omega
end Go.Proofs.YtjglonmnjcnhbaaDoor
namespace Go.Proofs.YtjglonmnjcnhbaaDoor
open Go.RowKit
set_option linter.unusedVariables false

/-- the number that a slice of digits reads as -/
def mvalb (b : Nat) (w : World) : Value → Nat
  | .slice (some a) n _ => val b ((List.range n).map fun i => cellNat (w.cell? (a.add i)))
  | _ => 0
theorem mvalb_rd {b : Nat} {k : IntKind} {w : World} {A : Option Addr} {n c : Nat} {xs : List Nat} (h1 : Rd k w A n c xs) : mvalb b w (.slice A n c) = val b xs := by
  rcases A with _ | a
  · have hn : n = 0 := by
      rcases Nat.eq_zero_or_pos n with h0 | h0
      · exact h0
      · obtain ⟨b, off, e, _⟩ := h1.2 h0
        cases e
    have := h1.len
    rw [hn] at this
    rw [List.eq_nil_of_length_eq_zero this]
    rfl
  · have : (List.range n).map (fun i => cellNat (w.cell? (a.add i))) = xs := by
      refine List.ext_getElem (by simp [h1.len]) fun i hi hi' => ?_
      have hin : i < n := by simpa using hi
      obtain ⟨b, off, e, _, hc⟩ := h1.at hin
      injection e with e
      subst e
      simp only [List.getElem_map, List.getElem_range, addo, hc, cellNat]
      rw [nth_lt hi']
      simp
    simp only [mvalb, this]
def Gc5I (w0 : World) (x y K : Nat) (wr : World) (A1 : Option Addr) (n1 c1 : Nat) (A2 : Option Addr) (n2 c2 s t : Nat) : Prop :=
  Own .i64 3 w0.heap.size wr A1 n1 c1 (dg D s) ∧ Own .i64 3 w0.heap.size wr A2 n2 c2 (dg D t) ∧ Below w0.heap.size w0 wr ∧ Nat.gcd s t = Nat.gcd x y ∧ n1 ≤ 4 * K ∧ n2 ≤ 4 * K
/-- the least common multiple of all -/
def llcm (xs : List Nat) : Nat := xs.foldl Nat.lcm 1
theorem llcm_take {xs : List Nat} {k : Nat} (h : k < xs.length) : llcm (xs.take (k + 1)) = Nat.lcm (llcm (xs.take k)) (nth xs k) := by
  rw [List.take_succ_eq_append_getElem h, llcm, List.foldl_append, nth_lt h]; rfl
end Go.Proofs.YtjglonmnjcnhbaaDoor
namespace Go.Proofs.YtjglonmnjcnhbaaDoor
open Go.RowKit
set_option linter.unusedVariables false

/-- the n-th root, rounded down -/
def nroot (n : Nat) : Nat → Nat
  | 0 => 0
  | a + 1 => if (nroot n a + 1) ^ n ≤ a + 1 then nroot n a + 1 else nroot n a
theorem nroot_spec {n : Nat} (hn : 1 ≤ n) (a : Nat) : nroot n a ^ n ≤ a ∧ a < (nroot n a + 1) ^ n := by
  induction a with
  | zero => exact ⟨by rw [nroot, Nat.zero_pow (by omega)]; exact Nat.le_refl _, by rw [nroot]; simp⟩
  | succ a ih =>
    obtain ⟨h1, h2⟩ := ih
    rw [nroot]
    split
    · rename_i h
      exact ⟨h, Nat.lt_of_le_of_lt (show a + 1 ≤ (nroot n a + 1) ^ n from h2) (Nat.pow_lt_pow_left (by omega) (by omega))⟩
    · rename_i h
      exact ⟨by omega, by omega⟩
theorem nroot_uniq {n a s : Nat} (hn : 1 ≤ n) (h1 : s ^ n ≤ a) (h2 : a < (s + 1) ^ n) : nroot n a = s := by
  obtain ⟨g1, g2⟩ := nroot_spec hn a
  rcases Nat.lt_trichotomy s (nroot n a) with h | h | h
  · have := Nat.pow_le_pow_left (show s + 1 ≤ nroot n a from h) n
    omega
  · exact h.symm
  · have := Nat.pow_le_pow_left (show nroot n a + 1 ≤ s from h) n
    omega
theorem nroot_zero {n : Nat} : nroot n 0 = 0 := rfl
theorem nroot_one {a : Nat} : nroot 1 a = a := nroot_uniq (Nat.le_refl _) (by simp) (by simp)
theorem nroot_big {n a : Nat} (hn : 1 ≤ n) (h0 : 0 < a) (h : nb a ≤ n) : nroot n a = 1 := by
  refine nroot_uniq hn (by rw [Nat.one_pow]; exact h0) ?_
  have h1 := nb_lt a
  exact Nat.lt_of_lt_of_le h1 (Nat.pow_le_pow_right (by omega) h)
theorem nroot_le {n a : Nat} (hn : 1 ≤ n) : nroot n a ≤ a := by
  obtain ⟨g1, g2⟩ := nroot_spec hn a
  rcases Nat.eq_zero_or_pos (nroot n a) with h | h
  · omega
  · have : nroot n a ^ 1 ≤ nroot n a ^ n := Nat.pow_le_pow_right h hn
    rw [Nat.pow_one] at this
    omega
/-- bit by bit: the bits from j on are found -/
def RtI (n a q s j : Nat) : Prop := s ^ n ≤ a ∧ a < (s + 2 ^ j) ^ n ∧ s + 2 ^ j ≤ 2 ^ (q + 1)
theorem RtI.start {n a : Nat} (hn : 1 ≤ n) : RtI n a (nb a / n) 0 (nb a / n + 1) := by
  refine ⟨by rw [Nat.zero_pow (by omega)]; exact Nat.zero_le _, ?_, by omega⟩
  rw [Nat.zero_add, ← Nat.pow_mul]
  refine Nat.lt_of_lt_of_le (nb_lt a) (Nat.pow_le_pow_right (by omega) ?_)
  have := Nat.lt_div_mul_add (a := nb a) (b := n) (by omega)
  rw [Nat.add_mul, Nat.one_mul]
  omega
theorem RtI.up {n a q s j : Nat} (h : RtI n a q s (j + 1)) (hle : (s + 2 ^ j) ^ n ≤ a) : RtI n a q (s + 2 ^ j) j := by
  obtain ⟨h1, h2, h3⟩ := h
  rw [Nat.pow_succ] at h2 h3
  have e : s + 2 ^ j + 2 ^ j = s + 2 ^ j * 2 := by omega
  exact ⟨hle, by rw [e]; exact h2, by rw [e]; exact h3⟩
theorem RtI.stay {n a q s j : Nat} (h : RtI n a q s (j + 1)) (hgt : a < (s + 2 ^ j) ^ n) : RtI n a q s j := by
  obtain ⟨h1, h2, h3⟩ := h
  rw [Nat.pow_succ] at h3
  exact ⟨h1, hgt, by have := Nat.pow_pos (n := j) (show 0 < 2 by omega); omega⟩
theorem RtI.done {n a q s : Nat} (h : RtI n a q s 0) (hn : 1 ≤ n) : s = nroot n a := by
  obtain ⟨h1, h2, h3⟩ := h
  exact (nroot_uniq hn h1 (by simpa using h2)).symm
theorem RtI.next_lt {n a q s j : Nat} (h : RtI n a q s (j + 1)) : s + 2 ^ j < 2 ^ (q + 1) := by
  obtain ⟨h1, h2, h3⟩ := h
  rw [Nat.pow_succ] at h3
  have := Nat.pow_pos (n := j) (show 0 < 2 by omega)
  omega
theorem two_W {x q : Nat} (h : x < 2 ^ (q + 1)) : x < W ^ (q / 64 + 1) := by
  refine Nat.lt_of_lt_of_le h ?_
  rw [show W = 2 ^ 64 from rfl, ← Nat.pow_mul]
  exact Nat.pow_le_pow_right (by omega) (by omega)
/-- so many words take the powers -/
theorem root_len {L n b : Nat} (hn : 1 ≤ n) (hb : b ≤ 64 * L) (hnb : n < b) : (b / n / 64 + 2) * n ≤ 129 * L := by
  have h1 : b / n / 64 * n ≤ L := by
    have h2 : b / n / 64 * 64 ≤ b / n := Nat.div_mul_le_self _ _
    have h3 : b / n * n ≤ b := Nat.div_mul_le_self _ _
    have h4 : b / n / 64 * 64 * n ≤ b / n * n := Nat.mul_le_mul_right _ h2
    rw [Nat.mul_assoc, Nat.mul_comm 64 n, ← Nat.mul_assoc] at h4
    omega
  rw [Nat.add_mul]
  omega
theorem nb_W {x L : Nat} (h : x < W ^ L) : nb x ≤ 64 * L := by
  rcases Nat.eq_zero_or_pos x with h0 | h0
  · subst h0; rw [nb_zero]; exact Nat.zero_le _
  · obtain ⟨h1, h2⟩ := nb_le h0
    rw [show W = 2 ^ 64 from rfl, ← Nat.pow_mul] at h
    have := (Nat.pow_lt_pow_iff_right (show 1 < 2 by omega)).1 (Nat.lt_of_le_of_lt h1 h)
    omega

theorem val_top (n p : Nat) : val W ((List.replicate (n + 1) 0).set n p) = W ^ n * p := by
  have e : (List.replicate (n + 1) 0).set n p = List.replicate n 0 ++ [p] := by
    rw [List.replicate_succ', List.set_append_right _ _ (by simp)]
    simp
  rw [e, val_append, val_replicate, List.length_replicate]
  simp [val]
set_option maxHeartbeats 1000000 in
theorem gtwo_any {i : Nat} {i' : Int} {w : World} (ei : i' = (i : Int)) (hi : i ≤ 4294967296) : Calls Tryd.prog 80 #[.int .i64 i'] w (GV w (2 ^ i) (i / 64 + 1)) := by
  subst ei
  have HE := Lib.hid elN
  have q1 := lay (show (i : Int) / 64 = ((i / 64 : Nat) : Int) by omega)
  have q2 := lay (show (i : Int) % 64 = ((i % 64 : Nat) : Int) by omega)
  have q3 := lay (show (i : Int).tmod 64 = ((i % 64 : Nat) : Int) by rw [Int.tmod_eq_emod_of_nonneg (by omega)]; omega)
  have q4 := lay (show (i : Int).tdiv 64 = ((i / 64 : Nat) : Int) by rw [Int.tdiv_eq_ediv_of_nonneg (by omega)]; omega)
  have hr : i % 64 < 64 := by omega
  have hws : i / 64 ≤ 67108864 := by omega
  have HV : Hid (val W ((List.replicate (i / 64 + 1) 0).set (i / 64) (2 ^ (i % 64))) = 2 ^ i) := by show _ = _; rw [val_top, two_split i, Nat.mul_comm]
  have hp : 2 ^ (i % 64) < W := Nat.pow_lt_pow_right (by omega) hr
  have HA : Hid (All W ((List.replicate (i / 64 + 1) 0).set (i / 64) (2 ^ (i % 64)))) := (All.replicate W_pos).set hp _
  have s1 := lay (show IntKind.u64.wrap ((2 : Int) ^ (i % 64)) = ((2 ^ (i % 64) : Nat) : Int) by
    have e1 : ((2 : Int) ^ (i % 64)) = ((2 ^ (i % 64) : Nat) : Int) := by rw [Int.natCast_pow]; rfl
    rw [e1]; exact wrapN _ (by rw [W_eq] at hp; exact hp))
  have s2 := lay (show IntKind.u64.wrap (1 * (2 : Int) ^ (i % 64)) = ((2 ^ (i % 64) : Nat) : Int) by
    have e1 : ((2 : Int) ^ (i % 64)) = ((2 ^ (i % 64) : Nat) : Int) := by rw [Int.natCast_pow]; rfl
    rw [Int.one_mul, e1]; exact wrapN _ (by rw [W_eq] at hp; exact hp))
  clear hp
  generalize i / 64 = ws at *
  generalize i % 64 = r at *
  generalize 2 ^ i = X at *
  go_enter Tryd.func80, Tryd.ntmps80
  have i0 : (0 : Int) ≤ (ws : Int) := by omega
  have i1 : (ws : Int) < (ws : Int) + 1 := by omega
  go_wp2_with (at_make; refine wpList_mk rfl (.tmp 6) (.tmp 6) rfl HE.out w.heap.size (ws + 1) rfl rfl (by push_cast; rfl) (by push_cast; rfl) (by omega) (Nat.le_refl _) ?_; intro w2 ho2 hg2 hb2; have hfr := ho2.frozen (i := ws); have hcs := ho2.cell (i := ws) (by omega); generalize nth (List.replicate (ws + 1) 0) ws = old at hcs; have HO := Lib.hid (And.intro (ho2.stored (i := ws) (x := 2 ^ r)) (hb2.setCell (p := ⟨w.heap.size, ws, none⟩) (Nat.le_refl _) (.int .u64 ((2 ^ r : Nat) : Int)))); clear ho2 hb2 hg2)
  go_ret
  exact ⟨_, _, _, _, rfl, HO.out.1, HA.out, HV.out, HO.out.2, Nat.le_refl _⟩

theorem and_one64 (i : Nat) (hi : i < 9223372036854775808) : bits BinOp.and IntKind.i64 (i : Int) 1 = ((i % 2 : Nat) : Int) := by
  have t63 : (2 : Int) ^ 63 = 9223372036854775808 := by decide
  have h := bits_mask .i64 63 (by decide) (fun n h0 h1 => by rw [t63] at h1; rw [IntKind.wrap_i64]; omega) 1 (by decide) (i : Int) (by omega) (by rw [t63]; omega)
  have e : ((2 : Int) ^ 1 - 1) = 1 := by decide
  rw [e] at h
  rw [h]
  omega
set_option maxHeartbeats 2000000 in
theorem gpower_any {v : Value} {x L N : Nat} {n' : Int} {w : World} (h : Num w v x L) (hn' : n' = (N : Int)) (hN1 : 1 ≤ N) (hN : N ≤ 4294967296) (hLN : L * N ≤ 34359738368) :
    Calls Tryd.prog 81 #[v, .int .i64 n'] w (GN w (x ^ N) (L * N + 1)) := by
  subst hn'
  have H := Lib.hid h
  have HX := Lib.hid h.lt
  have HLN := Lib.hid hLN
  have HLL : Hid (L ≤ L * N + 1) := by
    show _ ≤ _
    have := Nat.mul_le_mul_left L hN1
    omega
  have h1W : Hid (1 < W) := W_gt
  obtain ⟨A0, n0, c0, xs0, rfl, _⟩ := id h
  clear h hLN
  go_enter Tryd.func81, Tryd.ntmps81
  go_wp2_with fail
  refine (nof_any rfl h1W.out).mono ?_
  rintro e w1 ⟨A_o, n_o, c_o, rfl, o_o, hb1, l_o⟩
  go_wp2
  have HO : Hid (PowI N N 0 1 ∧ Own .u64 27 w.heap.size w1 A_o n_o c_o (dg W (x ^ 0)) ∧ (∃ l, l ≤ L * N + 1 ∧ Num w1 (.slice A0 n0 c0) (x ^ 1) l) ∧ Below w.heap.size w w1) := by
    exact ⟨PowI.start N, by rw [Nat.pow_zero]; exact o_o, ⟨L, HLL.out, by rw [Nat.pow_one]; exact (H.out.below hb1)⟩, hb1⟩
  clear o_o hb1 l_o
  go_loopw [0, 1, 5] (fun bv nv ov wr => ∃ (m a b : Nat) (A1 : Option Addr) (n1 c1 : Nat) (A2 : Option Addr) (n2 c2 : Nat), Hid (PowI N m a b ∧ Own .u64 27 w.heap.size wr A1 n1 c1 (dg W (x ^ a)) ∧ (∃ l, l ≤ L * N + 1 ∧ Num wr (.slice A2 n2 c2) (x ^ b) l) ∧ Below w.heap.size w wr) ∧ m ≤ N ∧ nv = .int .i64 m ∧ ov = .slice A1 n1 c1 ∧ bv = .slice A2 n2 c2) (fun _ nv _ _ => (intOf nv).toNat)
  case atStart => exact ⟨N, 0, 1, _, _, _, _, _, _, HO, Nat.le_refl _, rfl, rfl, rfl⟩
  case round =>
    obtain ⟨m, a, b, A1, n1, c1, A2, n2, c2, hI, hm, rfl, rfl, rfl⟩ := hrel
    have la : Hid (n1 ≤ L * N + 1) := by
      show _ ≤ _
      rw [← hI.out.2.1.len]; exact pow_len HX.out hI.out.1.2.2 rfl
    by_cases h0 : 0 < m
    · obtain ⟨lb0, hlb0, hNb0⟩ := hI.out.2.2.1
      have hNb := Lib.hid (hNb0.mono hlb0)
      clear hlb0 hNb0
      have b1 := lay (show bits BinOp.and IntKind.i64 (m : Int) 1 = (m : Int) % 2 by rw [and_one64 m (by omega)]; omega)
      obtain ⟨mh, hmh⟩ : ∃ mh, mh = m / 2 := ⟨_, rfl⟩
      have b2 := lay (show (m : Int) / 2 = (mh : Int) by omega)
      have HMH := Lib.hid hmh
      have hmh2 : mh < m := by omega
      clear hmh
      by_cases h1 : m % 2 = 1
      · have q1 : ((m : Int) % 2 == 1) = true := by rw [beq_iff_eq]; omega
        have H1 := Lib.hid h1
        clear h1
        by_cases hm1 : m = 1
        · have HM1 := Lib.hid hm1
          have hm3 : m ≤ 1 := by omega
          clear hm1
          go_wp2_with fail
          refine (mul_any (hI.out.2.1.num la.out) hNb.out (by have := HLN.out; omega) (by have := HLN.out; omega)).mono ?_
          rintro e w4 ⟨A3, n3, c3, rfl, ho3, hb3, hl3⟩
          go_wp2
          go_roundw
          case rel =>
            refine ⟨mh, a + b, b, _, _, _, _, _, _, ⟨by have := hI.out.1; rw [HM1.out] at this; rw [HMH.out, HM1.out]; exact this.last, ?_, ⟨_, Nat.le_refl _, hNb.out.below hb3⟩, bt hI.out.2.2.2 hb3⟩, by omega, by go_num, rfl, rfl⟩
            rw [Nat.pow_add]
            exact ho3.mono hI.out.2.2.2.size
          case measure => simp [intOf]; omega
        · have hm2 : 1 < m := by omega
          clear hm1
          go_wp2_with fail
          refine (mul_any (hI.out.2.1.num la.out) hNb.out (by have := HLN.out; omega) (by have := HLN.out; omega)).mono ?_
          rintro e w4 ⟨A3, n3, c3, rfl, ho3, hb3, hl3⟩
          go_wp2_with fail
          refine (square_any (hNb.out.below hb3) (by have := HLN.out; omega)).mono ?_
          rintro e w5 ⟨A4, n4, c4, rfl, ho4, hb4, hl4⟩
          go_wp2
          go_roundw
          case rel =>
            have hp := (hI.out.1.odd1 H1.out).resolve_right (by omega)
            refine ⟨mh, a + b, b + b, _, _, _, _, _, _, ⟨by rw [HMH.out]; exact hp, ?_, ⟨n4, ?_, ?_⟩, bt (bt hI.out.2.2.2 hb3) hb4⟩, by omega, by go_num, rfl, rfl⟩
            · rw [Nat.pow_add]
              exact (ho3.mono hI.out.2.2.2.size).below hb4
            · rw [← ho4.len, ← Nat.pow_add]; exact pow_len HX.out (by have := hp.2.1; omega) rfl
            · rw [Nat.pow_add]
              exact ho4.num (Nat.le_refl _)
          case measure => simp [intOf]; omega
      · have q1 : ((m : Int) % 2 == 1) = false := by rw [beq_eq_false_iff_ne]; omega
        have H1 : Hid (m % 2 = 0) := by show _ = _; omega
        have hm2 : 1 < m := by omega
        clear h1
        go_wp2_with fail
        refine (square_any hNb.out (by have := HLN.out; omega)).mono ?_
        rintro e w5 ⟨A4, n4, c4, rfl, ho4, hb4, hl4⟩
        go_wp2
        go_roundw
        case rel =>
          have hp := hI.out.1.even H1.out h0
          refine ⟨mh, a, b + b, _, _, _, _, _, _, ⟨by rw [HMH.out]; exact hp, hI.out.2.1.below hb4, ⟨n4, ?_, ?_⟩, bt hI.out.2.2.2 hb4⟩, by omega, by go_num, rfl, rfl⟩
          · rw [← ho4.len, ← Nat.pow_add]; exact pow_len HX.out (by have := hp.2.1; omega) rfl
          · rw [Nat.pow_add]
            exact ho4.num (Nat.le_refl _)
        case measure => simp [intOf]; omega
    · obtain rfl : m = 0 := by omega
      have e : x ^ a = x ^ N := by have := hI.out.1.1; rw [show a = N by omega]
      go_wp2
      go_ret
      rw [← e]
      exact ⟨_, _, _, rfl, hI.out.2.1, hI.out.2.2.2, la.out⟩

def GRt (w : World) (n a L : Nat) (e : Ending) (w' : World) : Prop :=
  ∃ A m c, e = .returned (.tuple #[.slice A m c, .bool (decide (nroot n a ^ n = a)), .int .i64 0]) ∧ Own .u64 27 w.heap.size w' A m c (dg W (nroot n a)) ∧ Below w.heap.size w w' ∧ m ≤ L
theorem groot_bad {v : Value} {z : Int} {w : World} (hz : z < 1) : Calls Tryd.prog 49 #[v, .int .i64 z] w (Keeps (.tuple #[.slice none 0 0, .bool false, .int .i64 3]) w) := by
  have d1 : decide (z < 1) = true := by simpa using hz
  go_enter Tryd.func49, Tryd.ntmps49
  go_wp2
  go_ret3
  exact ⟨rfl, Below.refl _ _⟩
theorem groot_zero {v : Value} {x L N : Nat} {w : World} (h : Num w v x L) (hN : 1 ≤ N) (hx : x = 0) (hL : L ≤ 67108864) : Calls Tryd.prog 49 #[v, .int .i64 (N : Int)] w (GRt w N x L) := by
  have C := Lib.hid (nbits_any (w := w) h (by omega))
  obtain ⟨_, _, _, _, rfl, _⟩ := id h
  have hb : nb x = 0 := by rw [hx, nb_zero]
  rw [hb] at C
  have d1 : decide ((N : Int) < 1) = false := by simp; omega
  have HR : Hid (nroot N x = 0 ∧ decide (nroot N x ^ N = x) = true) := by
    subst hx
    exact ⟨nroot_zero, by rw [nroot_zero, Nat.zero_pow (by omega)]; rfl⟩
  clear h hb
  go_enter Tryd.func49, Tryd.ntmps49
  go_wp2_with fail
  refine C.out.mono ?_
  rintro e w' ⟨rfl, rfl⟩
  go_wp2
  go_ret3
  exact ⟨_, _, _, by rw [HR.out.2]; rfl, by rw [HR.out.1]; exact Own.nildg, Below.refl _ _, Nat.zero_le _⟩
theorem groot_one {v : Value} {x L : Nat} {w : World} (h : Num w v x L) (hx : 0 < x) (hL : L ≤ 67108864) : Calls Tryd.prog 49 #[v, .int .i64 1] w (GRt w 1 x L) := by
  have H := Lib.hid h
  obtain ⟨_, _, _, _, rfl, _⟩ := id h
  have q1 : ((nb x : Int) == 0) = false := by rw [beq_eq_false_iff_ne]; have := nb_pos hx; omega
  have HR : Hid (nroot 1 x = x ∧ decide (nroot 1 x ^ 1 = x) = true) := ⟨nroot_one, by rw [nroot_one, Nat.pow_one]; simp⟩
  have C := Lib.hid (nbits_any (w := w) h (by omega))
  generalize nb x = b at *
  clear h hx
  go_enter Tryd.func49, Tryd.ntmps49
  go_wp2_with fail
  refine (C.out).mono ?_
  rintro e w' ⟨rfl, rfl⟩
  go_wp2_with fail
  refine (nnorm_any H.out (by omega)).mono ?_
  rintro e w2 ⟨A_r, n_r, c_r, rfl, o_r, hb2, l_r⟩
  go_wp2
  go_ret3
  exact ⟨_, _, _, by rw [HR.out.2]; rfl, by rw [HR.out.1]; exact o_r, hb2, by omega⟩
theorem groot_few {v : Value} {x L N : Nat} {w : World} (h : Num w v x L) (hx : 0 < x) (hN : 2 ≤ N) (hb : nb x ≤ N) (hL : L ≤ 67108864) : Calls Tryd.prog 49 #[v, .int .i64 (N : Int)] w (GRt w N x L) := by
  obtain ⟨_, _, _, _, rfl, _⟩ := id h
  have q1 : ((nb x : Int) == 0) = false := by rw [beq_eq_false_iff_ne]; have := nb_pos hx; omega
  have q2 : ((N : Int) == 1) = false := by rw [beq_eq_false_iff_ne]; omega
  have d1 : decide ((N : Int) < 1) = false := by simp; omega
  have d2 : decide ((nb x : Int) ≤ (N : Int)) = true := by simp; exact hb
  have d2b : decide (nb x ≤ N) = true := by simp; exact hb
  have HR : Hid (nroot N x = 1 ∧ ((nb x : Int) == 1) = decide (nroot N x ^ N = x)) := by
    have e := nroot_big (by omega) hx hb
    refine ⟨e, ?_⟩
    rw [e, Nat.one_pow]
    rcases (show x = 1 ∨ 2 ≤ x by omega) with h1 | h1
    · rw [h1, nb_one]; rfl
    · have := nb_two h1
      rw [decide_eq_false (by omega), beq_eq_false_iff_ne]
      omega
  have C := Lib.hid (nbits_any (w := w) h (by omega))
  have h1W : Hid (1 < W) := W_gt
  have hL1 : Hid (1 ≤ L) := by
    show _ ≤ _
    have := h.lt
    rcases Nat.eq_zero_or_pos L with h0 | h0
    · rw [h0, Nat.pow_zero] at this; omega
    · exact h0
  generalize nb x = b at *
  clear h hx hb
  go_enter Tryd.func49, Tryd.ntmps49
  go_wp2_with fail
  refine (C.out).mono ?_
  rintro e w' ⟨rfl, rfl⟩
  go_wp2_with fail
  refine (nof_any rfl h1W.out).mono ?_
  rintro e w2 ⟨A_r, n_r, c_r, rfl, o_r, hb2, l_r⟩
  go_wp2
  go_ret3
  exact ⟨_, _, _, by rw [HR.out.2]; rfl, by rw [HR.out.1]; exact o_r, hb2, by have := hL1.out; omega⟩

set_option maxHeartbeats 2000000 in
theorem groot_in {v : Value} {x L N : Nat} {w : World} (h : Num w v x L) (hx : 0 < x) (hN : 2 ≤ N) (hb : N < nb x) (hL : L ≤ 67108864) : Calls Tryd.prog 49 #[v, .int .i64 (N : Int)] w (GRt w N x L) := by
  have H := Lib.hid h
  have hbL : nb x ≤ 64 * L := nb_W h.lt
  have HLen := Lib.hid (root_len (by omega) hbL hb)
  have HLT := Lib.hid h.lt
  have C := Lib.hid (nbits_any (w := w) h (by omega))
  obtain ⟨_, _, _, _, rfl, _⟩ := id h
  have q1 : ((nb x : Int) == 0) = false := by rw [beq_eq_false_iff_ne]; have := nb_pos hx; omega
  have q2 : ((N : Int) == 1) = false := by rw [beq_eq_false_iff_ne]; omega
  have q3 : ((N : Int) == 0) = false := by rw [beq_eq_false_iff_ne]; omega
  have d1 : decide ((N : Int) < 1) = false := by simp; omega
  have d2 : decide ((nb x : Int) ≤ (N : Int)) = false := by simp; omega
  have d2b : decide (nb x ≤ N) = false := by simp; omega
  have HS := Lib.hid (RtI.start (n := N) (a := x) (by omega))
  have hq : nb x / N ≤ nb x := Nat.div_le_self _ _
  have e1 := lay (show (nb x : Int) / (N : Int) = ((nb x / N : Nat) : Int) by rw [Int.natCast_ediv])
  have e2 := lay (show (nb x : Int).tdiv (N : Int) = ((nb x / N : Nat) : Int) by rw [Int.tdiv_eq_ediv_of_nonneg (by omega), Int.natCast_ediv])
  have nz : (N : Int) ≠ 0 := by omega
  have nz3 : ¬ N = 0 := by omega
  have HX0 := Lib.hid hx
  generalize nb x / N = q at *
  generalize nb x = b at *
  clear h hx
  go_enter Tryd.func49, Tryd.ntmps49
  go_wp2_with fail
  refine C.out.mono ?_
  rintro e w' ⟨rfl, rfl⟩
  go_wp2
  go_loopw [8, 9, 10] (fun sv ev iv wr => ∃ (j s : Nat) (A : Option Addr) (m c : Nat) (ex : Bool), Hid (RtI N x q s j ∧ Own .u64 27 w.heap.size wr A m c (dg W s) ∧ Below w.heap.size w wr ∧ ex = decide (s ^ N = x)) ∧ j ≤ q + 1 ∧ sv = .slice A m c ∧ ev = .bool ex ∧ iv = .int .i64 ((j : Int) - 1)) (fun _ _ iv _ => (intOf iv + 1).toNat)
  case atStart =>
    refine ⟨q + 1, 0, _, _, _, false, ⟨HS.out, Own.nildg, Below.refl _ _, ?_⟩, Nat.le_refl _, rfl, rfl, by go_num⟩
    rw [Nat.zero_pow (by omega), decide_eq_false (by have := HX0.out; omega)]
  case round =>
    obtain ⟨j, s, A, m, c, ex, hI, hj, rfl, rfl, rfl⟩ := hrel
    by_cases h0 : j = 0
    · subst h0
      have HF := Lib.hid (hI.out.1.done (by omega))
      have d3 : decide ((0 : Int) ≤ ((0 : Nat) : Int) - 1) = false := by simp
      have lm : Hid (m ≤ L) := by
        show _ ≤ _
        rw [← hI.out.2.1.len, HF.out]
        exact dgl (Nat.lt_of_le_of_lt (nroot_le (by omega)) HLT.out)
      go_wp2
      go_ret3
      have ho := hI.out.2.1
      rw [HF.out] at ho
      refine ⟨_, _, _, ?_, ho, hI.out.2.2.1, lm.out⟩
      rw [hI.out.2.2.2, HF.out]
      rfl
    · obtain ⟨k, rfl⟩ : ∃ k, j = k + 1 := ⟨j - 1, by omega⟩
      have ei : ((k + 1 : Nat) : Int) - 1 = (k : Int) := by omega
      rw [ei]
      have d3 : decide ((0 : Int) ≤ (k : Int)) = true := by simp
      have HTL := Lib.hid (two_W hI.out.1.next_lt)
      have lm : m ≤ L := by
        rw [← hI.out.2.1.len]
        refine dgl (Nat.lt_of_le_of_lt ?_ HLT.out)
        have h1 := hI.out.1.1
        rcases Nat.eq_zero_or_pos s with h2 | h2
        · omega
        · have : s ^ 1 ≤ s ^ N := Nat.pow_le_pow_right h2 (by omega)
          rw [Nat.pow_one] at this
          omega
      clear h0 ei
      obtain ⟨wo, rfl⟩ : ∃ wo : World, wo = wr := ⟨_, rfl⟩
      go_wp2_with fail
      refine (gtwo_any (i := k) rfl (by omega)).mono ?_
      rintro e w1 ⟨A_t, n_t, c_t, xs_t, rfl, o_t, a_t, v_t, hb1, l_t⟩
      have V_t := Lib.hid v_t
      clear v_t
      go_wp2_with fail
      refine (nadd_any ((hI.out.2.1.num lm).below hb1) (o_t.numv a_t V_t.out l_t) (by omega) (by omega)).mono ?_
      rintro e w2 ⟨A_u, n_u, c_u, rfl, o_u, hb2, l_u⟩
      have lu : Hid (n_u ≤ q / 64 + 2) := by show _ ≤ _; rw [← o_u.len]; have := dgl HTL.out; omega
      go_wp2_with fail
      refine (gpower_any (o_u.num (L := q / 64 + 2) lu.out) rfl (by omega) (by omega) (by have := HLen.out; omega)).mono ?_
      rintro e w3 ⟨A_p, n_p, c_p, rfl, o_p, hb3, l_p⟩
      have CC := Lib.hid (ncmp_any (w := w3) (o_p.num l_p) ((((H.out.below hI.out.2.2.1).below hb1).below hb2).below hb3) (by have := HLen.out; omega) (by omega))
      have HU := Lib.hid (And.intro (((o_u.mono hb1.size).below hb3).mono hI.out.2.2.1.size) (bt hI.out.2.2.1 (bt (bt hb1 hb2) hb3)))
      have HK := Lib.hid (And.intro (hI.out.2.1.below (bt (bt hb1 hb2) hb3)) (bt hI.out.2.2.1 (bt (bt hb1 hb2) hb3)))
      rcases Nat.lt_trichotomy ((s + 2 ^ k) ^ N) x with hc | hc | hc
      · have ec : cmpN ((s + 2 ^ k) ^ N) x = -1 := by rw [cmpN, if_pos hc]
        rw [ec] at CC
        have HNEW : Hid (RtI N x q (s + 2 ^ k) k ∧ Own .u64 27 w.heap.size _ A_u n_u c_u (dg W (s + 2 ^ k)) ∧ Below w.heap.size w _ ∧ ex = decide ((s + 2 ^ k) ^ N = x)) := ⟨hI.out.1.up (Nat.le_of_lt hc), HU.out.1, HU.out.2, by
          rw [hI.out.2.2.2, decide_eq_false (Nat.ne_of_lt hc), decide_eq_false]
          have : s ^ N ≤ (s + 2 ^ k) ^ N := Nat.pow_le_pow_left (Nat.le_add_right _ _) _
          omega⟩
        clear hc ec
        go_wp2_with fail
        refine CC.out.mono ?_
        rintro e w' ⟨rfl, rfl⟩
        go_wp2
        go_roundw
        case rel => exact ⟨k, _, _, _, _, _, HNEW, by omega, rfl, rfl, rfl⟩
        case measure => simp [intOf]
      · have ec : cmpN ((s + 2 ^ k) ^ N) x = 0 := by rw [cmpN, if_neg (by omega), if_neg (by omega)]
        rw [ec] at CC
        have HNEW : Hid (RtI N x q (s + 2 ^ k) k ∧ Own .u64 27 w.heap.size _ A_u n_u c_u (dg W (s + 2 ^ k)) ∧ Below w.heap.size w _ ∧ true = decide ((s + 2 ^ k) ^ N = x)) := ⟨hI.out.1.up (Nat.le_of_eq hc), HU.out.1, HU.out.2, by rw [decide_eq_true hc]⟩
        clear hc ec
        go_wp2_with fail
        refine CC.out.mono ?_
        rintro e w' ⟨rfl, rfl⟩
        go_wp2
        go_roundw
        case rel => exact ⟨k, _, _, _, _, _, HNEW, by omega, rfl, rfl, rfl⟩
        case measure => simp [intOf]
      · have ec : cmpN ((s + 2 ^ k) ^ N) x = 1 := by rw [cmpN, if_neg (by omega), if_pos hc]
        rw [ec] at CC
        have HNEW : Hid (RtI N x q s k ∧ Own .u64 27 w.heap.size _ A m c (dg W s) ∧ Below w.heap.size w _ ∧ ex = decide (s ^ N = x)) := ⟨hI.out.1.stay hc, HK.out.1, HK.out.2, hI.out.2.2.2⟩
        clear hc ec
        go_wp2_with fail
        refine CC.out.mono ?_
        rintro e w' ⟨rfl, rfl⟩
        go_wp2
        go_roundw
        case rel => exact ⟨k, _, _, _, _, _, HNEW, by omega, rfl, rfl, rfl⟩
        case measure => simp [intOf]
theorem groot_any {v : Value} {x L N : Nat} {n' : Int} {w : World} (h : Num w v x L) (en : n' = (N : Int)) (hN : 1 ≤ N) (hL : L ≤ 67108864) : Calls Tryd.prog 49 #[v, .int .i64 n'] w (GRt w N x L) := by
  subst en
  rcases Nat.eq_zero_or_pos x with hx | hx
  · exact groot_zero h hN hx hL
  · rcases (show N = 1 ∨ 2 ≤ N by omega) with h1 | h1
    · subst h1; exact groot_one h hx hL
    · rcases Nat.lt_or_ge N (nb x) with h2 | h2
      · exact groot_in h hx h1 h2 hL
      · exact groot_few h hx h1 h2 hL
theorem gsqrt_any {v : Value} {x L : Nat} {w : World} (h : Num w v x L) (hL : L ≤ 67108864) : Calls Tryd.prog 25 #[v] w (GN2 w (nroot 2 x) L (x - nroot 2 x * nroot 2 x) L) := by
  have C := Lib.hid (groot_any (N := 2) (n' := 2) h rfl (by omega) hL)
  have HLE : Hid (nroot 2 x * nroot 2 x ≤ x) := by
    show _ ≤ _
    have := (nroot_spec (n := 2) (by omega) x).1
    rwa [Nat.pow_two] at this
  have H := Lib.hid h
  obtain ⟨_, _, _, _, rfl, _⟩ := id h
  clear h
  go_enter Tryd.func25, Tryd.ntmps25
  go_wp2_with fail
  refine C.out.mono ?_
  rintro e ws ⟨A_s, n_s, c_s, rfl, o_s, hbs, l_s⟩
  go_wp2_with fail
  refine (square_any (o_s.num l_s) (by omega)).mono ?_
  rintro e w1 ⟨A_p, n_p, c_p, rfl, o_p, hb1, l_p⟩
  go_wp2_with fail
  refine (gsub_any ((H.out.below hbs).below hb1) (o_p.num l_p) HLE.out (by omega) (by omega)).mono ?_
  rintro e w2 ⟨A_r, n_r, c_r, rfl, o_r, hb2, l_r⟩
  go_wp2
  go_ret2
  exact ⟨_, _, _, _, _, _, rfl, ((o_s.below hb1).below hb2), (o_r.mono (bt hbs hb1).size), (bt (bt hbs hb1) hb2), by omega, by omega⟩
end Go.Proofs.YtjglonmnjcnhbaaDoor
