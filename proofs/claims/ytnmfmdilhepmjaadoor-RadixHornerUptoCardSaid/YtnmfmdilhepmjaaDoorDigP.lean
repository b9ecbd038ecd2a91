/-
  Digits in a base, the lowest first; walks: div.Digits; nat.Bit, div.PowMod. Walks: nat.Bit, div.PowMod.
-/
import Derived.Test.YtnmfmdilhepmjaaDoorGcd
import Derived.Test.YtnmfmdilhepmjaaDoorLookB
namespace Go.Proofs.YtnmfmdilhepmjaaDoor
open Go.RowKit
set_option linter.unusedVariables false

theorem norm_cons {x : Nat} {xs : List Nat} (h : Norm xs) (hx : xs ≠ [] ∨ x ≠ 0) : Norm (x :: xs) := by
  rcases snoc_cases xs with rfl | ⟨ys, y, rfl⟩
  · have h0 : x ≠ 0 := by rcases hx with h1 | h1; exact absurd rfl h1; exact h1
    simp [Norm, strip, h0]
  · by_cases hy : y = 0
    · subst hy
      unfold Norm at h
      rw [strip_snoc_zero] at h
      have := strip_length_le ys
      rw [h] at this
      simp at this
      omega
    · show strip (x :: (ys ++ [y])) = _
      rw [← List.cons_append, strip_snoc hy]
theorem dg_cons {b t : Nat} (hb : 1 < b) (ht : 0 < t) : dg b t = (t % b) :: dg b (t / b) := by
  refine Eq.trans ?_ (norm_dg hb (xs := (t % b) :: dg b (t / b)) (All.cons (Nat.mod_lt _ (by omega)) (dg_all hb _)) (norm_cons (dg_norm _) ?_)).symm
  · rw [val, dg_val hb, Nat.mod_add_div]
  · by_cases h : t / b = 0
    · right
      have := Nat.div_add_mod t b
      intro h2
      rw [h, h2] at this
      omega
    · left
      exact fun e => h ((dg_nil_iff hb).1 e)
theorem dg_len64 {b x L : Nat} (hb : 1 < b) (hx : x < W ^ L) : (dg b x).length ≤ 64 * L := by
  refine dg_len hb (Nat.lt_of_lt_of_le hx ?_)
  have : W ^ L = 2 ^ (64 * L) := by rw [show W = 2 ^ 64 from rfl, ← Nat.pow_mul]
  rw [this]
  exact Nat.pow_le_pow_left hb _

/-- an own slice apart from the block that has turned -/
theorem Own.apart {k : IntKind} {t : TypeId} {B n c n1 c1 : Nat} {w w' : World} {A A1 : Option Addr} {xs : List Nat} (h : Own k t B w A n c xs) (hlt : ∀ g, (Value.slice A1 n1 c1).ownBlock = some g → g < B) (hg : w.grownBy w' (Value.slice A1 n1 c1).ownBlock) : Own k t B w' A n c xs := by
  refine World.ownsRow.kept h hg ?_
  rcases A with _ | a
  · exact .inl rfl
  · right
    intro e
    rcases A1 with _ | a1
    · cases e
    · have h1 := hlt _ rfl
      have h2 := World.ownsRow.lt h _ rfl
      simp only [Value.ownBlock] at e
      injection e with e
      omega
/-- the digits -/
def GDig (w : World) (b x : Nat) (e : Ending) (w' : World) : Prop :=
  ∃ A n c, e = .returned (.tuple #[.slice A n c, .int .i64 0]) ∧ Own .u64 25 w.heap.size w' A n c (dg b x) ∧ Below w.heap.size w w'
set_option maxHeartbeats 1000000 in
theorem ddigits_any {v : Value} {x L b : Nat} {b' : Int} {w : World} (h : Num w v x L) (eb : b' = (b : Int)) (hb : 2 ≤ b) (hbW : b < W) (hL : L ≤ 1073741824) : Calls Tryd.prog 64 #[v, .int .u64 b'] w (GDig w b x) := by
  subst eb
  have H := Lib.hid h
  have HB := Lib.hid (And.intro hb hbW)
  have HLN := Lib.hid (dg_len64 hb h.lt)
  obtain ⟨_, _, _, _, rfl, _⟩ := id h
  have d1 : ¬ ((b : Int) < 2) := by omega
  clear h hb hbW
  go_enter Tryd.func64, Tryd.ntmps64
  go_wp2_with fail
  refine (nnorm_any H.out (by omega)).mono ?_
  rintro e w1 ⟨A_p, n_p, c_p, rfl, o_p, hb1, l_p⟩
  have HS := Lib.hid (And.intro o_p hb1)
  clear o_p
  go_wp2_with fail
  go_loopw [6, 7] (fun dv lv wr => ∃ (A1 A2 : Option Addr) (n1 c1 n2 c2 t : Nat) (ds : List Nat), Hid (Own .u64 25 w.heap.size wr A1 n1 c1 ds ∧ Own .u64 25 w.heap.size wr A2 n2 c2 (dg W t) ∧ Below w.heap.size w wr) ∧ Hid (dg b x = ds ++ dg b t) ∧ n2 ≤ L ∧ dv = .slice A1 n1 c1 ∧ lv = .slice A2 n2 c2) (fun dv lv wr => mval wr lv)
  case atStart => exact ⟨none, _, 0, 0, _, _, x, [], ⟨Own.nil, HS.out.1, HS.out.2⟩, rfl, l_p, rfl, rfl⟩
  case round =>
    obtain ⟨A1, A2, n1, c1, n2, c2, t, ds, hI, hD, ln2, rfl, rfl⟩ := hrel
    rcases Nat.eq_zero_or_pos t with ht | ht
    · obtain rfl := len_zero hI.out.2.1 ht
      go_wp2
      go_ret2
      have e : ds = dg b x := by rw [hD.out, ht, dg_zero HB.out.1, List.append_nil]
      have ho : Own .u64 25 w.heap.size wr A1 n1 c1 (dg b x) := by rw [← e]; exact hI.out.1
      exact ⟨_, _, _, rfl, ho, hI.out.2.2⟩
    · have hp := len_pos hI.out.2.1 ht
      have hp2 : (0 : Int) < (n2 : Int) := by omega
      have N2 := Lib.hid (hI.out.2.1.num (L := L) ln2)
      have HT := Lib.hid ht
      have hc := dg_cons (b := b) HB.out.1 ht
      have HC : Hid (dg b x = (ds ++ [t % b]) ++ dg b (t / b)) := by show _ = _; rw [hD.out, hc]; simp
      have ln1 : n1 + 1 ≤ 64 * L := by
        have h1 := HLN.out
        rw [HC.out, List.length_append, List.length_append, hI.out.1.len, List.length_singleton] at h1
        omega
      clear ht hc hp
      go_wp2_with fail
      refine (word_any N2.out rfl (by have := HB.out.1; omega) HB.out.2 (by omega)).mono ?_
      rintro e w3 ⟨A3, n3, c3, rfl, ho3, hb3, hl3⟩
      have hlt : ∀ g, (Value.slice A1 n1 c1).ownBlock = some g → g < wr.heap.size := fun g hg => (World.ownsRow.lt hI.out.1 g hg).2
      have HLT := Lib.hid hlt
      have HI3 := Lib.hid (And.intro (hI.out.1.below hb3) (And.intro (ho3.below ((Below.refl _ _).alloc (Nat.le_refl _) (.cells #[.int .u64 ((t % b : Nat) : Int)] 25))) (And.intro (bt hI.out.2.2 hb3) (hI.out.2.2.size))))
      have hsz : wr.heap.size ≤ w3.heap.size := hb3.size
      clear ho3 hb3 hlt
      go_wp2_with (at_builtin; (refine wpList_app rfl (.tmp 28) (.tmp 30) rfl elW (t := 25) (k := .u64) (ys := [t % b]) rfl rfl (HI3.out.1.alloc _) (Rd.lit1 w3 (t % b)) (by omega) (by have := HI3.out.2.2.1.size; simp; omega) ?_); intro A4 c4 w4 ho4 hb4 hg4 _)
      have HO4 := Lib.hid (And.intro ho4 (And.intro (HI3.out.2.1.apart HLT.out hg4) ((HI3.out.2.2.1.alloc HI3.out.2.2.1.size _).trans hb4)))
      clear ho4 hb4 hg4
      have N3 : Hid (mval w4 (.slice A3 n3 c3) < mval wr (.slice A2 n2 c2)) := by
        show _ < _
        rw [mval_num (HO4.out.2.1.num hl3), mval_num N2.out]
        exact Nat.div_lt_self HT.out HB.out.1
      go_wp2
      go_roundw
      case rel => exact ⟨A4, A3, n1 + 1, c4, n3, c3, t / b, _, ⟨HO4.out.1, HO4.out.2.1.mono HI3.out.2.2.2, HO4.out.2.2⟩, HC, hl3, rfl, rfl⟩
      case measure => exact N3.out
end Go.Proofs.YtnmfmdilhepmjaaDoor
namespace Go.Proofs.YtnmfmdilhepmjaaDoor
open Go.RowKit
set_option linter.unusedVariables false
theorem nb_spec {x : Nat} : x / 2 ^ nb x = 0 := Nat.div_eq_of_lt (nb_lt x)
theorem half_up (x j : Nat) : x / 2 ^ j = 2 * (x / 2 ^ (j + 1)) + x / 2 ^ j % 2 := by
  rw [Nat.pow_succ, ← Nat.div_div_eq_div_mul]
  omega
theorem pow_sq {a q m : Nat} : (a ^ q % m) * (a ^ q % m) % m = a ^ (2 * q) % m := by
  rw [← Nat.mul_mod, ← Nat.pow_add]
  congr 2
  omega
theorem pow_sq1 {a q m : Nat} : (a ^ (2 * q) % m) * a % m = a ^ (2 * q + 1) % m := by
  rw [Nat.pow_succ, Nat.mul_mod, Nat.mod_mod, ← Nat.mul_mod]
end Go.Proofs.YtnmfmdilhepmjaaDoor
