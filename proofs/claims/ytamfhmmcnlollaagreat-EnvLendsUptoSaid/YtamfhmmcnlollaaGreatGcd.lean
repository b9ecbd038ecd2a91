/-
  Walks: gcd.isZero, isOne, quo, mod, sub, Gcd, Lcm, Coprime. Multiples modulo a number, in plain Lean: what gcd.factor keeps. No program here. Walk: gcd.factor. Walk: gcd.Extended.
-/
import Derived.Test.YtamfhmmcnlollaaGreatDivQ
import Derived.Test.YtamfhmmcnlollaaGreatNatC
import Derived.Test.YtamfhmmcnlollaaGreatNum
namespace Go.Proofs.YtamfhmmcnlollaaGreat
open Go.RowKit
set_option linter.unusedVariables false

/-- the number that a slice of words reads as -/
def cellNat : Option Value → Nat
  | some (.int _ z) => z.toNat
  | _ => 0
def mval (w : World) : Value → Nat
  | .slice (some a) n _ => val W ((List.range n).map fun i => cellNat (w.cell? (a.add i)))
  | _ => 0
theorem mval_num {w : World} {v : Value} {x L : Nat} (h : Num w v x L) : mval w v = x := by
  obtain ⟨A, n, c, xs, rfl, h1, h2, rfl, h4⟩ := h
  rcases A with _ | a
  · have hn : n = 0 := by
      rcases Nat.eq_zero_or_pos n with h0 | h0
      · exact h0
      · obtain ⟨b, off, e, _⟩ := h1.2 h0
        cases e
    have := h1.len
    rw [hn] at this
    rw [List.eq_nil_of_length_eq_zero this]
    rfl
  · have : (List.range n).map (fun i => cellNat (w.cell? (a.add i))) = xs := by
      refine List.ext_getElem (by simp [h1.len]) fun i hi hi' => ?_
      have hin : i < n := by simpa using hi
      obtain ⟨b, off, e, _, hc⟩ := h1.at hin
      injection e with e
      subst e
      simp only [List.getElem_map, List.getElem_range, addo, hc, cellNat]
      rw [nth_lt hi']
      simp
    simp only [mval, this]
theorem nb_zero : nb 0 = 0 := by simp [nb]
theorem nb_pos {x : Nat} (h : 0 < x) : 0 < nb x := by rw [nb, if_neg (by omega)]; omega
theorem gmod_any {v u : Value} {x y L K : Nat} {w : World} (h : Num w v x L) (h' : Num w u y K) (hy0 : 0 < y) (hL : L ≤ 2147483648) (hK : K ≤ 2147483648) : Calls Tryz.prog 87 #[v, u] w (GN w (x % y) K) := by
  have C := Lib.hid (mod_any (w := w) h h' hy0 hL hK)
  obtain ⟨_, _, _, _, rfl, _⟩ := id h
  obtain ⟨_, _, _, _, rfl, _⟩ := id h'
  clear h h'
  go_enter Tryz.func87, Tryz.ntmps87
  go_wp2_with fail
  refine (C.out).mono ?_
  rintro e w1 ⟨A_r, n_r, c_r, rfl, o_r, hb1, l_r⟩
  go_wp2
  go_ret
  exact ⟨_, _, _, rfl, o_r, hb1, by omega⟩
set_option maxHeartbeats 1000000 in
theorem gcd_any {v u : Value} {x y L K : Nat} {w : World} (h : Num w v x L) (h' : Num w u y K) (hL : L ≤ 1073741824) (hK : K ≤ 1073741824) : Calls Tryz.prog 37 #[v, u] w (GN w (Nat.gcd x y) (L + K)) := by
  have H := Lib.hid h
  have H' := Lib.hid h'
  obtain ⟨_, _, _, _, rfl, _⟩ := id h
  obtain ⟨_, _, _, _, rfl, _⟩ := id h'
  clear h h'
  go_enter Tryz.func37, Tryz.ntmps37
  go_wp2_with fail
  refine (nnorm_any H.out (by omega)).mono ?_
  rintro e w1 ⟨A_p, n_p, c_p, rfl, o_p, hb1, l_p⟩
  go_wp2_with fail
  refine (nnorm_any (H'.out.below hb1) (by omega)).mono ?_
  rintro e w2 ⟨A_q, n_q, c_q, rfl, o_q, hb2, l_q⟩
  have HS := Lib.hid (And.intro (o_p.below hb2) (And.intro (o_q.mono hb1.size) (bt hb1 hb2)))
  clear o_p o_q
  go_wp2_with fail
  go_loopw [0, 1] (fun av bv wr => ∃ (A1 A2 : Option Addr) (n1 c1 n2 c2 s t : Nat), Hid (Own .u64 41 w.heap.size wr A1 n1 c1 (dg W s) ∧ Own .u64 41 w.heap.size wr A2 n2 c2 (dg W t) ∧ Below w.heap.size w wr) ∧ Hid (Nat.gcd s t = Nat.gcd x y) ∧ n1 ≤ L + K ∧ n2 ≤ L + K ∧ av = .slice A1 n1 c1 ∧ bv = .slice A2 n2 c2) (fun av bv wr => mval wr bv)
  case atStart => exact ⟨_, _, _, _, _, _, _, _, HS, rfl, by omega, by omega, rfl, rfl⟩
  case round =>
    obtain ⟨A1, A2, n1, c1, n2, c2, s, t, hI, hG, ln1, ln2, rfl, rfl⟩ := hrel
    rcases Nat.eq_zero_or_pos t with ht | ht
    · obtain rfl := len_zero hI.out.2.1 ht
      go_wp2
      go_ret
      have e : s = Nat.gcd x y := by rw [← hG.out, ht, Nat.gcd_zero_right]
      rw [← e]
      exact ⟨_, _, _, rfl, hI.out.1, hI.out.2.2, ln1⟩
    · have hp := len_pos hI.out.2.1 ht
      have N1 := Lib.hid (hI.out.1.num (L := L + K) ln1)
      have N2 := Lib.hid (hI.out.2.1.num (L := L + K) ln2)
      have HT := Lib.hid ht
      clear ht
      go_wp2_with fail
      refine (gmod_any N1.out N2.out HT.out (by omega) (by omega)).mono ?_
      rintro e w3 ⟨A3, n3, c3, rfl, ho3, hb3, hl3⟩
      have N3 : Hid (mval w3 (.slice A3 n3 c3) < mval wr (.slice A2 n2 c2)) := by
        show _ < _
        rw [mval_num (ho3.num hl3), mval_num N2.out]
        exact Nat.mod_lt _ HT.out
      go_wp2
      go_roundw
      case rel =>
        refine ⟨A2, A3, n2, c2, n3, c3, t, s % t, ⟨hI.out.2.1.below hb3, ho3.mono hI.out.2.2.size, bt hI.out.2.2 hb3⟩, ?_, ln2, hl3, rfl, rfl⟩
        show _ = _
        rw [← hG.out, Nat.gcd_comm t, ← Nat.gcd_rec, Nat.gcd_comm]
      case measure => exact N3.out
end Go.Proofs.YtamfhmmcnlollaaGreat
namespace Go.Proofs.YtamfhmmcnlollaaGreat
set_option linter.unusedVariables false

/-- r = s a modulo m -/
def Cong (m a r s : Nat) : Prop := (m : Int) ∣ (r : Int) - (s : Int) * (a : Int)
theorem cong_mod (m x : Nat) : (m : Int) ∣ ((x % m : Nat) : Int) - (x : Int) := by
  refine ⟨-((x / m : Nat) : Int), ?_⟩
  have := Nat.mod_add_div x m
  have e : (x : Int) = ((x % m : Nat) : Int) + (m : Int) * ((x / m : Nat) : Int) := by rw [← Int.natCast_mul, ← Int.natCast_add, this]
  rw [Int.mul_neg]
  omega
theorem Cong.step {m a r0 r1 s0 s1 : Nat} (h0 : Cong m a r0 s0) (h1 : Cong m a r1 s1) (hm : 0 < m) : Cong m a (r0 % r1) ((s0 + (m - r0 / r1 * s1 % m)) % m) := by
  have hq : ((r0 % r1 : Nat) : Int) = (r0 : Int) - ((r0 / r1 : Nat) : Int) * (r1 : Int) := by
    have := Nat.mod_add_div r0 r1
    have e : (r0 : Int) = ((r0 % r1 : Nat) : Int) + (r1 : Int) * ((r0 / r1 : Nat) : Int) := by rw [← Int.natCast_mul, ← Int.natCast_add, this]
    rw [Int.mul_comm (r1 : Int)] at e
    omega
  have hlt := Nat.mod_lt (r0 / r1 * s1) hm
  have c1 := cong_mod m (s0 + (m - r0 / r1 * s1 % m))
  have c2 := cong_mod m (r0 / r1 * s1)
  rw [Int.natCast_add, Int.natCast_sub (Nat.le_of_lt hlt)] at c1
  rw [Int.natCast_mul] at c2
  generalize (s0 + (m - r0 / r1 * s1 % m)) % m = s' at *
  generalize r0 / r1 * s1 % m = t at *
  generalize r0 / r1 = q at *
  unfold Cong at *
  rw [hq]
  obtain ⟨k0, e0⟩ := h0
  obtain ⟨k1, e1⟩ := h1
  obtain ⟨k2, e2⟩ := c1
  obtain ⟨k3, e3⟩ := c2
  refine ⟨k0 - q * k1 - k2 * a - a + k3 * a, ?_⟩
  have f0 : (r0 : Int) = m * k0 + s0 * a := by omega
  have f1 : (r1 : Int) = m * k1 + s1 * a := by omega
  have f2 : (s' : Int) = m * k2 + s0 + (m - t) := by omega
  have f3 : (t : Int) = m * k3 + q * s1 := by omega
  rw [f0, f1, f2, f3]
  simp only [Int.mul_add, Int.add_mul, Int.mul_sub, Int.sub_mul]
  have a1 : (q : Int) * (m * k1) = m * (q * k1) := Int.mul_left_comm _ _ _
  have a2 : (m : Int) * k2 * a = m * (k2 * a) := Int.mul_assoc _ _ _
  have a3 : (m : Int) * k3 * a = m * (k3 * a) := Int.mul_assoc _ _ _
  have a4 : (q : Int) * s1 * a = q * (s1 * a) := Int.mul_assoc _ _ _
  rw [a1, a2, a3, a4]
  omega
end Go.Proofs.YtamfhmmcnlollaaGreat
namespace Go.Proofs.YtamfhmmcnlollaaGreat
open Go.RowKit
set_option linter.unusedVariables false
end Go.Proofs.YtamfhmmcnlollaaGreat
namespace Go.Proofs.YtamfhmmcnlollaaGreat
open Go.RowKit
set_option linter.unusedVariables false

/-- a cell that may be written -/
def Cel (w : World) (p : Addr) (v : Value) : Prop := w.cell? p = some v ∧ w.frozen? p = false ∧ p.block < w.heap.size
theorem Cel.below {w w' : World} {p : Addr} {v : Value} (h : Cel w p v) (hb : Below w.heap.size w w') : Cel w' p v := ⟨(hb.cell h.2.2).trans h.1, (hb.frozen h.2.2).trans h.2.1, Nat.lt_of_lt_of_le h.2.2 hb.size⟩
theorem Cel.box {i : Nat} {v : Value} {t : TypeId} {b : Nat} (w : World) (vs : Array Value) (h : vs[i]? = some v) (hb : b = w.heap.size) : Cel (w.alloc (.cells vs t)) ⟨b, i, none⟩ v := by
  subst hb
  refine ⟨(At.box w vs h).1, ?_, by simp⟩
  unfold World.frozen?
  rw [heap_alloc_new]
  simp

/-- a store below its base -/
theorem Own.set_low {k : IntKind} {t : TypeId} {B n c : Nat} {w : World} {A : Option Addr} {xs : List Nat} {p : Addr} (h : Own k t B w A n c xs) (hp : p.block < B) (u : Value) : Own k t B (w.setCell p u) A n c xs := by
  refine ⟨h.1, ?_⟩
  rcases h.2 with h2 | ⟨g, cap, cur, hv, hg, hh, r⟩
  · exact .inl h2
  · refine .inr ⟨g, cap, cur, hv, hg, ?_, r⟩
    rw [Below.heap_setCell w p u g (by rintro rfl; omega)]
    exact hh
end Go.Proofs.YtamfhmmcnlollaaGreat
