/-
  The reference of layer 1: surdref01.Trim, Cmp, Bits, Zeros, Bit. math/bits.TrailingZeros64 over its table; limb.Zeros, Bit; surdref01.Bit. Digits in a base, the lowest first; walks: div.Digits; nat.Bit, div.PowMod. Walks: nat.Bit, div.PowMod.
-/
import Derived.Test.YtajoafcondgelaaGreatDoorSumX
import Derived.Test.YtajoafcondgelaaGreatDoorNatB
import Derived.Lib.TrailingZeros
import Derived.Lib.LaidTab
import Derived.Test.YtajoafcondgelaaGreatDoorGcd
namespace Go.Proofs.YtajoafcondgelaaGreatDoor
open Go.RowKit
set_option linter.unusedVariables false
theorem nb_mod_one {x i : Nat} (h : x / 2 ^ i % 2 = 1) : nb (x % 2 ^ (i + 1)) = i + 1 := by
  have e : x % 2 ^ (i + 1) = x % 2 ^ i + 2 ^ i * (x / 2 ^ i % 2) := by rw [Nat.pow_succ, Nat.mod_mul]
  have := Nat.mod_lt x (two_pos i)
  rw [e, h]
  exact nb_uniq (by omega) (by rw [Nat.pow_succ]; omega)
theorem mod_zerob {x i : Nat} (h : x / 2 ^ i % 2 = 0) : x % 2 ^ (i + 1) = x % 2 ^ i := by
  rw [Nat.pow_succ, Nat.mod_mul, h]; simp
/-- how often 2 divides -/
def tzn (x : Nat) : Nat := if x = 0 then 0 else Lib.ctzFrom x x
theorem tzn_uniq {x t m : Nat} (h : x = 2 ^ t * (2 * m + 1)) : tzn x = t := by
  have hx : 0 < x := by rw [h]; exact Nat.mul_pos (two_pos t) (by omega)
  obtain ⟨k, hk, _⟩ := Lib.ctzFrom_spec x x hx (Nat.lt_two_pow_self)
  rw [tzn, if_neg (by omega)]
  generalize Lib.ctzFrom x x = s at *
  rw [h] at hk
  have key : ∀ a b p q : Nat, a < b → 2 ^ a * (2 * p + 1) = 2 ^ b * (2 * q + 1) → False := by
    intro a b p q hab he
    obtain ⟨d, rfl⟩ : ∃ d, b = a + (d + 1) := ⟨b - a - 1, by omega⟩
    rw [Nat.pow_add, Nat.mul_assoc] at he
    have := Nat.eq_of_mul_eq_mul_left (two_pos a) he
    rw [Nat.pow_succ, Nat.mul_comm (2 ^ d), Nat.mul_assoc] at this
    omega
  rcases Nat.lt_trichotomy s t with h1 | h1 | h1
  · exact (key _ _ _ _ h1 hk.symm).elim
  · exact h1
  · exact (key _ _ _ _ h1 hk).elim
theorem tzn_bit {x t : Nat} (h0 : x % 2 ^ t = 0) (h1 : x / 2 ^ t % 2 = 1) : tzn x = t := by
  refine tzn_uniq (m := x / 2 ^ t / 2) ?_
  have a := Nat.div_add_mod x (2 ^ t)
  have b := Nat.div_add_mod (x / 2 ^ t) 2
  rw [h0, Nat.add_zero] at a
  rw [h1] at b
  rw [b]
  exact a.symm
end Go.Proofs.YtajoafcondgelaaGreatDoor
namespace Go.Proofs.YtajoafcondgelaaGreatDoor
open Go.RowKit
set_option linter.unusedVariables false
theorem tz_key (x a : Nat) (hx : x < 18446744073709551616) (hx0 : x ≠ 0) (hlow : x &&& (18446744073709551616 - x) = a) :
    IntKind.u64.wrap (bits BinOp.and IntKind.u64 (x : Int) (IntKind.u64.wrap (-(x : Int))) * 285870213051353865) / 288230376151711744 = ((a * 285870213051353865 % 18446744073709551616 / 288230376151711744 : Nat) : Int) := by
  have e1 : IntKind.u64.wrap (-(x : Int)) = ((18446744073709551616 - x : Nat) : Int) := by rw [IntKind.wrap_u64]; omega
  rw [e1, bits_and_u64_nat x _ hx (by omega), hlow, IntKind.wrap_u64]
  omega
theorem ctz_word {x : Nat} (hx : x < W) (h0 : x ≠ 0) : ∃ m, x = 2 ^ Lib.ctz 64 x * (2 * m + 1) := by
  obtain ⟨m, hm, _⟩ := Lib.ctzFrom_spec 64 x (by omega) hx
  exact ⟨m, by rw [Lib.ctz, if_neg h0]; exact hm⟩
theorem tzn_words {xs : List Nat} (h : All W xs) {i : Nat} (hz : val W (xs.take i) = 0) (h0 : nth xs i ≠ 0) : tzn (val W xs) = i * 64 + Lib.ctz 64 (nth xs i) := by
  have hW := h.nth W_pos i
  obtain ⟨m, hm⟩ := ctz_word hW h0
  obtain ⟨_, hk⟩ := Lib.lowest_bit 64 (nth xs i) h0 hW
  generalize Lib.ctz 64 (nth xs i) = t at *
  have e : val W xs = val W (xs.take i) + W ^ i * val W (xs.drop i) := by
    have a := val_append (b := W) (xs.take i) (xs.drop i)
    rw [List.take_append_drop] at a
    have hi : i < xs.length := by
      rcases Nat.lt_or_ge i xs.length with h1 | h1
      · exact h1
      · exact absurd (nth_ge h1) h0
    rw [List.length_take, Nat.min_eq_left (by omega)] at a
    exact a
  rw [hz, Nat.zero_add, val_nth, hm, W_pow2] at e
  have hWt : W = 2 ^ t * 2 ^ (64 - t) := W_two (by omega)
  have h2 : 2 ^ (64 - t) = 2 * 2 ^ (63 - t) := by rw [show 64 - t = 63 - t + 1 by omega, Nat.pow_succ, Nat.mul_comm]
  generalize val W (xs.drop (i + 1)) = Z at e
  refine tzn_uniq (m := m + 2 ^ (63 - t) * Z) ?_
  have e3 : W * Z = 2 ^ t * (2 * (2 ^ (63 - t) * Z)) := by rw [hWt, h2, Nat.mul_assoc, Nat.mul_assoc]
  have e4 : 2 * (m + 2 ^ (63 - t) * Z) + 1 = 2 * m + 1 + 2 * (2 ^ (63 - t) * Z) := by rw [Nat.mul_add]; omega
  rw [e, e3, ← Nat.mul_add, e4, Nat.mul_comm i 64, Nat.pow_add, Nat.mul_assoc]
theorem bit_word {x r : Nat} (hx : x < W) : bits .and .u64 (((x / 2 ^ r : Nat) : Int)) 1 = ((x / 2 ^ r % 2 : Nat) : Int) := by
  have h := bits_and_u64_nat (x / 2 ^ r) 1 (Nat.lt_of_le_of_lt (Nat.div_le_self _ _) hx) (by omega)
  rw [Nat.and_one_is_mod] at h
  exact h
theorem nth_bit64 {xs : List Nat} (h : All W xs) (i : Nat) : nth xs (i / 64) / 2 ^ (i % 64) % 2 = val W xs / 2 ^ i % 2 := by
  rw [two_split i, Nat.mul_comm, ← Nat.div_div_eq_div_mul, ← val_drop_div h, val_nth]
  have hW : W = 2 ^ (i % 64) * 2 ^ (64 - i % 64) := W_two (by omega)
  have h2 : 2 ^ (64 - i % 64) = 2 * 2 ^ (63 - i % 64) := by rw [show 64 - i % 64 = 63 - i % 64 + 1 by omega, Nat.pow_succ, Nat.mul_comm]
  rw [hW, Nat.mul_assoc, Nat.add_mul_div_left _ _ (two_pos _), h2, Nat.mul_assoc, Nat.add_mul_mod_self_left]
end Go.Proofs.YtajoafcondgelaaGreatDoor
namespace Go.Proofs.YtajoafcondgelaaGreatDoor
open Go.RowKit
set_option linter.unusedVariables false

theorem norm_cons {x : Nat} {xs : List Nat} (h : Norm xs) (hx : xs ≠ [] ∨ x ≠ 0) : Norm (x :: xs) := by
  rcases snoc_cases xs with rfl | ⟨ys, y, rfl⟩
  · have h0 : x ≠ 0 := by rcases hx with h1 | h1; exact absurd rfl h1; exact h1
    simp [Norm, strip, h0]
  · by_cases hy : y = 0
    · subst hy
      unfold Norm at h
      rw [strip_snoc_zero] at h
      have := strip_length_le ys
      rw [h] at this
      simp at this
      omega
    · show strip (x :: (ys ++ [y])) = _
      rw [← List.cons_append, strip_snoc hy]
theorem dg_cons {b t : Nat} (hb : 1 < b) (ht : 0 < t) : dg b t = (t % b) :: dg b (t / b) := by
  refine Eq.trans ?_ (norm_dg hb (xs := (t % b) :: dg b (t / b)) (All.cons (Nat.mod_lt _ (by omega)) (dg_all hb _)) (norm_cons (dg_norm _) ?_)).symm
  · rw [val, dg_val hb, Nat.mod_add_div]
  · by_cases h : t / b = 0
    · right
      have := Nat.div_add_mod t b
      intro h2
      rw [h, h2] at this
      omega
    · left
      exact fun e => h ((dg_nil_iff hb).1 e)
theorem dg_len64 {b x L : Nat} (hb : 1 < b) (hx : x < W ^ L) : (dg b x).length ≤ 64 * L := by
  refine dg_len hb (Nat.lt_of_lt_of_le hx ?_)
  have : W ^ L = 2 ^ (64 * L) := by rw [show W = 2 ^ 64 from rfl, ← Nat.pow_mul]
  rw [this]
  exact Nat.pow_le_pow_left hb _

/-- an own slice apart from the block that has turned -/
theorem Own.apart {k : IntKind} {t : TypeId} {B n c n1 c1 : Nat} {w w' : World} {A A1 : Option Addr} {xs : List Nat} (h : Own k t B w A n c xs) (hlt : ∀ g, (Value.slice A1 n1 c1).ownBlock = some g → g < B) (hg : w.grownBy w' (Value.slice A1 n1 c1).ownBlock) : Own k t B w' A n c xs := by
  refine World.ownsRow.kept h hg ?_
  rcases A with _ | a
  · exact .inl rfl
  · right
    intro e
    rcases A1 with _ | a1
    · cases e
    · have h1 := hlt _ rfl
      have h2 := World.ownsRow.lt h _ rfl
      simp only [Value.ownBlock] at e
      injection e with e
      omega
/-- the digits -/
def GDig (w : World) (b x : Nat) (e : Ending) (w' : World) : Prop :=
  ∃ A n c, e = .returned (.tuple #[.slice A n c, .int .i64 0]) ∧ Own .u64 28 w.heap.size w' A n c (dg b x) ∧ Below w.heap.size w w'
set_option maxHeartbeats 1000000 in
theorem ddigits_any {v : Value} {x L b : Nat} {b' : Int} {w : World} (h : Num w v x L) (eb : b' = (b : Int)) (hb : 2 ≤ b) (hbW : b < W) (hL : L ≤ 1073741824) : Calls Tryz.prog 26 #[v, .int .u64 b'] w (GDig w b x) := by
  subst eb
  have H := Lib.hid h
  have HB := Lib.hid (And.intro hb hbW)
  have HLN := Lib.hid (dg_len64 hb h.lt)
  obtain ⟨_, _, _, _, rfl, _⟩ := id h
  have d1 : ¬ ((b : Int) < 2) := by omega
  clear h hb hbW
  go_enter Tryz.func26, Tryz.ntmps26
  go_wp2_with fail
  refine (nnorm_any H.out (by omega)).mono ?_
  rintro e w1 ⟨A_p, n_p, c_p, rfl, o_p, hb1, l_p⟩
  have HS := Lib.hid (And.intro o_p hb1)
  clear o_p
  go_wp2_with fail
  go_loopw [6, 7] (fun dv lv wr => ∃ (A1 A2 : Option Addr) (n1 c1 n2 c2 t : Nat) (ds : List Nat), Hid (Own .u64 28 w.heap.size wr A1 n1 c1 ds ∧ Own .u64 28 w.heap.size wr A2 n2 c2 (dg W t) ∧ Below w.heap.size w wr) ∧ Hid (dg b x = ds ++ dg b t) ∧ n2 ≤ L ∧ dv = .slice A1 n1 c1 ∧ lv = .slice A2 n2 c2) (fun dv lv wr => mval wr lv)
  case atStart => exact ⟨none, _, 0, 0, _, _, x, [], ⟨Own.nil, HS.out.1, HS.out.2⟩, rfl, l_p, rfl, rfl⟩
  case round =>
    obtain ⟨A1, A2, n1, c1, n2, c2, t, ds, hI, hD, ln2, rfl, rfl⟩ := hrel
    rcases Nat.eq_zero_or_pos t with ht | ht
    · obtain rfl := len_zero hI.out.2.1 ht
      go_wp2
      go_ret2
      have e : ds = dg b x := by rw [hD.out, ht, dg_zero HB.out.1, List.append_nil]
      have ho : Own .u64 28 w.heap.size wr A1 n1 c1 (dg b x) := by rw [← e]; exact hI.out.1
      exact ⟨_, _, _, rfl, ho, hI.out.2.2⟩
    · have hp := len_pos hI.out.2.1 ht
      have hp2 : (0 : Int) < (n2 : Int) := by omega
      have N2 := Lib.hid (hI.out.2.1.num (L := L) ln2)
      have HT := Lib.hid ht
      have hc := dg_cons (b := b) HB.out.1 ht
      have HC : Hid (dg b x = (ds ++ [t % b]) ++ dg b (t / b)) := by show _ = _; rw [hD.out, hc]; simp
      have ln1 : n1 + 1 ≤ 64 * L := by
        have h1 := HLN.out
        rw [HC.out, List.length_append, List.length_append, hI.out.1.len, List.length_singleton] at h1
        omega
      clear ht hc hp
      go_wp2_with fail
      refine (word_any N2.out rfl (by have := HB.out.1; omega) HB.out.2 (by omega)).mono ?_
      rintro e w3 ⟨A3, n3, c3, rfl, ho3, hb3, hl3⟩
      have hlt : ∀ g, (Value.slice A1 n1 c1).ownBlock = some g → g < wr.heap.size := fun g hg => (World.ownsRow.lt hI.out.1 g hg).2
      have HLT := Lib.hid hlt
      have HI3 := Lib.hid (And.intro (hI.out.1.below hb3) (And.intro (ho3.below ((Below.refl _ _).alloc (Nat.le_refl _) (.cells #[.int .u64 ((t % b : Nat) : Int)] 28))) (And.intro (bt hI.out.2.2 hb3) (hI.out.2.2.size))))
      have hsz : wr.heap.size ≤ w3.heap.size := hb3.size
      clear ho3 hb3 hlt
      go_wp2_with (at_builtin; (refine wpList_app rfl (.tmp 28) (.tmp 30) rfl elW (t := 28) (k := .u64) (ys := [t % b]) rfl rfl (HI3.out.1.alloc _) (Rd.lit1 w3 (t % b)) (by omega) (by have := HI3.out.2.2.1.size; simp; omega) ?_); intro A4 c4 w4 ho4 hb4 hg4 _)
      have HO4 := Lib.hid (And.intro ho4 (And.intro (HI3.out.2.1.apart HLT.out hg4) ((HI3.out.2.2.1.alloc HI3.out.2.2.1.size _).trans hb4)))
      clear ho4 hb4 hg4
      have N3 : Hid (mval w4 (.slice A3 n3 c3) < mval wr (.slice A2 n2 c2)) := by
        show _ < _
        rw [mval_num (HO4.out.2.1.num hl3), mval_num N2.out]
        exact Nat.div_lt_self HT.out HB.out.1
      go_wp2
      go_roundw
      case rel => exact ⟨A4, A3, n1 + 1, c4, n3, c3, t / b, _, ⟨HO4.out.1, HO4.out.2.1.mono HI3.out.2.2.2, HO4.out.2.2⟩, HC, hl3, rfl, rfl⟩
      case measure => exact N3.out
end Go.Proofs.YtajoafcondgelaaGreatDoor
namespace Go.Proofs.YtajoafcondgelaaGreatDoor
open Go.RowKit
set_option linter.unusedVariables false
theorem nb_spec {x : Nat} : x / 2 ^ nb x = 0 := Nat.div_eq_of_lt (nb_lt x)
theorem half_up (x j : Nat) : x / 2 ^ j = 2 * (x / 2 ^ (j + 1)) + x / 2 ^ j % 2 := by
  rw [Nat.pow_succ, ← Nat.div_div_eq_div_mul]
  omega
theorem pow_sq {a q m : Nat} : (a ^ q % m) * (a ^ q % m) % m = a ^ (2 * q) % m := by
  rw [← Nat.mul_mod, ← Nat.pow_add]
  congr 2
  omega
theorem pow_sq1 {a q m : Nat} : (a ^ (2 * q) % m) * a % m = a ^ (2 * q + 1) % m := by
  rw [Nat.pow_succ, Nat.mul_mod, Nat.mod_mod, ← Nat.mul_mod]
end Go.Proofs.YtajoafcondgelaaGreatDoor
