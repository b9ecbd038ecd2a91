/-
  The numbers behind math/bits.Div64: no program here. math/bits.Div64.
-/
import Derived.Test.YtamfhmmcnlollaaGreatBitsB
import Derived.Test.YtamfhmmcnlollaaGreatWord
import Derived.Test.YtamfhmmcnlollaaGreatOrd
namespace Go.Proofs.YtamfhmmcnlollaaGreat
set_option linter.unusedVariables false

/-- half a word's base -/
def B : Nat := 4294967296
theorem B_eq : B = 4294967296 := rfl
theorem W_BB : W = B * B := by decide

theorem norm_y {y : Nat} (hy : y < W) (h0 : 0 < y) : y * 2 ^ (64 - blen y) < W ∧ W ≤ 2 * (y * 2 ^ (64 - blen y)) ∧ 64 - blen y ≤ 63 := by
  have h1 := blen_lt hy
  obtain ⟨h2, h3⟩ := blen_ge hy h0
  have h4 := blen_le hy
  obtain ⟨m, hm⟩ : ∃ m, blen y = m + 1 := ⟨blen y - 1, by omega⟩
  rw [hm] at h1 h2 h4 ⊢
  have e1 : 2 ^ (m + 1) * 2 ^ (64 - (m + 1)) = W := by rw [← Nat.pow_add, show m + 1 + (64 - (m + 1)) = 64 by omega]; rfl
  have e2 : 2 * (2 ^ m * 2 ^ (64 - (m + 1))) = W := by
    rw [← e1, Nat.pow_succ, Nat.mul_comm (2 ^ m) 2, Nat.mul_assoc]
  refine ⟨?_, ?_, by omega⟩
  · rw [← e1]; exact Nat.mul_lt_mul_of_pos_right h1 (Nat.pow_pos (by omega))
  · rw [← e2]
    have h5 : 2 ^ m ≤ y := h2
    exact Nat.mul_le_mul_left 2 (Nat.mul_le_mul_right _ h5)

theorem low_part {l s : Nat} (hl : l < W) (hs : s ≤ 63) : l * 2 ^ s = l / 2 ^ (64 - s) * W + l * 2 ^ s % W ∧ l / 2 ^ (64 - s) < 2 ^ s := by
  have e1 : 2 ^ (64 - s) * 2 ^ s = W := by rw [← Nat.pow_add, show 64 - s + s = 64 by omega]; rfl
  have e2 : l * 2 ^ s / W = l / 2 ^ (64 - s) := by
    rw [← e1, Nat.mul_comm l, Nat.mul_comm (2 ^ (64 - s)) (2 ^ s), Nat.mul_div_mul_left _ _ (Nat.pow_pos (by omega))]
  refine ⟨?_, ?_⟩
  · rw [← e2, Nat.mul_comm _ W]; exact (Nat.div_add_mod _ _).symm
  · refine Nat.div_lt_of_lt_mul ?_
    rw [e1]; exact hl

theorem u32_lt {h l y s : Nat} (hl : l < W) (hs : s ≤ 63) (hh : h < y) : h * 2 ^ s + l / 2 ^ (64 - s) < y * 2 ^ s := by
  have h1 := (low_part hl hs).2
  have h2 : (h + 1) * 2 ^ s ≤ y * 2 ^ s := Nat.mul_le_mul_right _ hh
  rw [Nat.add_mul] at h2
  omega

/-- the loop: qh is the digit or too great, rh what it leaves -/
def Dig (Y y1 y0 u u1 qh rh : Nat) : Prop := qh * y1 + rh = u ∧ (u * B + u1) / Y ≤ qh ∧ qh ≤ B + 1 ∧ rh < B
section
variable {Y y1 y0 u u1 qh rh : Nat}
theorem Dig.start (hY : Y = y1 * B + y0) (hy0 : y0 < B) (h2 : B ≤ 2 * y1) (hu : u < Y) (hu1 : u1 < B) (hy1 : y1 < B) : Dig Y y1 y0 u u1 (u / y1) (u % y1) := by
  have hp : 0 < y1 := by rw [B_eq] at h2; omega
  refine ⟨by rw [Nat.mul_comm]; exact Nat.div_add_mod _ _, ?_, ?_, Nat.lt_trans (Nat.mod_lt _ hp) hy1⟩
  · -- (u B + u1) / Y ≤ u / y1
    have e1 : (u * B + u1) / Y ≤ (u * B + u1) / (y1 * B) := Nat.div_le_div_left (by omega) (Nat.mul_pos hp (by decide))
    have e2 : (u * B + u1) / (y1 * B) = u / y1 := by
      rw [Nat.mul_comm y1 B, ← Nat.div_div_eq_div_mul, Nat.mul_comm u B, Nat.mul_add_div (by decide), Nat.div_eq_of_lt hu1, Nat.add_zero]
    omega
  · refine Nat.lt_succ_iff.1 (Nat.div_lt_of_lt_mul ?_)
    have : y1 * (B + 1 + 1) = y1 * B + 2 * y1 := by rw [Nat.mul_add, Nat.mul_add]; omega
    show u < y1 * (B + 1 + 1)
    omega
/-- it is too great -/
theorem Dig.over (h : Dig Y y1 y0 u u1 qh rh) (hY : Y = y1 * B + y0) (hu : u < Y) (hu1 : u1 < B) (ht : B ≤ qh ∨ B * rh + u1 < qh * y0) : (u * B + u1) / Y < qh := by
  obtain ⟨h1, h2, h3, h4⟩ := h
  rcases ht with ht | ht
  · refine Nat.lt_of_lt_of_le (Nat.div_lt_of_lt_mul ?_) ht
    have : (u + 1) * B ≤ Y * B := Nat.mul_le_mul_right _ hu
    rw [Nat.add_mul] at this
    omega
  · refine Nat.div_lt_of_lt_mul ?_
    rw [hY, Nat.mul_comm (y1 * B + y0) qh, Nat.mul_add, ← Nat.mul_assoc, ← h1, Nat.add_mul, Nat.mul_comm rh B]
    omega
/-- it is right -/
theorem Dig.fits (h : Dig Y y1 y0 u u1 qh rh) (hY : Y = y1 * B + y0) (h0 : 0 < Y) (ht : qh * y0 ≤ B * rh + u1) : qh = (u * B + u1) / Y := by
  obtain ⟨h1, h2, h3, h4⟩ := h
  refine Nat.le_antisymm ((Nat.le_div_iff_mul_le h0).2 ?_) h2
  rw [hY, Nat.mul_add, ← Nat.mul_assoc, ← h1, Nat.add_mul, Nat.mul_comm rh B]
  omega
theorem Dig.next {q1 : Nat} (h : Dig Y y1 y0 u u1 (q1 + 1) rh) (hlt : (u * B + u1) / Y < q1 + 1) (hb : rh + y1 < B) : Dig Y y1 y0 u u1 q1 (rh + y1) := by
  obtain ⟨h1, h2, h3, h4⟩ := h
  refine ⟨?_, by omega, by omega, hb⟩
  rw [← h1, Nat.add_mul]; omega
theorem Dig.break {q1 : Nat} (h : Dig Y y1 y0 u u1 (q1 + 1) rh) (hY : Y = y1 * B + y0) (hy0 : y0 < B) (h0 : 0 < Y) (hlt : (u * B + u1) / Y < q1 + 1) (hb : B ≤ rh + y1) : q1 = (u * B + u1) / Y := by
  obtain ⟨h1, h2, h3, h4⟩ := h
  refine Nat.le_antisymm ((Nat.le_div_iff_mul_le h0).2 ?_) (by omega)
  have e1 : q1 * y1 + (rh + y1) = u := by rw [← h1, Nat.add_mul]; omega
  have e2 : q1 * y0 ≤ B * B := Nat.mul_le_mul (by omega) (by omega)
  have e3 : B * B ≤ (rh + y1) * B := Nat.mul_le_mul_right _ hb
  rw [hY, Nat.mul_add, ← Nat.mul_assoc, ← e1, Nat.add_mul (q1 * y1)]
  omega
theorem Dig.lt (hu : u < Y) (hu1 : u1 < B) : (u * B + u1) / Y < B := by
  refine Nat.div_lt_of_lt_mul ?_
  have : (u + 1) * B ≤ Y * B := Nat.mul_le_mul_right _ hu
  rw [Nat.add_mul] at this
  omega
/-- what is left, modulo the word -/
theorem left_wrap {q : Nat} (hq : q = (u * B + u1) / Y) (hY : Y < W) (h0 : 0 < Y) : (u * B + u1 + W * (q * Y / W + 1) - q * Y) % W = (u * B + u1) % Y ∧ q * Y + (u * B + u1) % Y = u * B + u1 := by
  have e := Nat.div_add_mod (u * B + u1) Y
  rw [← hq, Nat.mul_comm] at e
  have l := Nat.mod_lt (u * B + u1) h0
  refine ⟨?_, e⟩
  generalize (u * B + u1) % Y = r at *
  rw [← e]
  have : q * Y + r + W * (q * Y / W + 1) - q * Y = r + W * (q * Y / W + 1) := by omega
  rw [this, Nat.add_mul_mod_self_left, Nat.mod_eq_of_lt (by omega)]
end
/-- both digits together -/
theorem two_digits {Y u32 u1 u0 q1 q0 r1 r0 : Nat} (h0 : 0 < Y) (e1 : q1 * Y + r1 = u32 * B + u1) (e0 : q0 * Y + r0 = r1 * B + u0) (hr : r0 < Y) :
    (u32 * W + (u1 * B + u0)) / Y = q1 * B + q0 ∧ (u32 * W + (u1 * B + u0)) % Y = r0 := by
  have e : u32 * W + (u1 * B + u0) = r0 + Y * (q1 * B + q0) := by
    have h1 : (q1 * Y + r1) * B = (u32 * B + u1) * B := by rw [e1]
    rw [Nat.add_mul, Nat.add_mul] at h1
    rw [W_BB, ← Nat.mul_assoc, Nat.mul_add, Nat.mul_comm Y q0, ← Nat.mul_assoc, Nat.mul_comm Y q1]
    omega
  rw [e, Nat.add_mul_div_left _ _ h0, Nat.add_mul_mod_self_left, Nat.div_eq_of_lt hr, Nat.mod_eq_of_lt hr]
  exact ⟨by omega, rfl⟩
theorem unshift {N y s : Nat} (h0 : 0 < y) : N * 2 ^ s / (y * 2 ^ s) = N / y ∧ N * 2 ^ s % (y * 2 ^ s) / 2 ^ s = N % y := by
  have hp : 0 < 2 ^ s := Nat.pow_pos (by omega)
  refine ⟨Nat.mul_div_mul_right _ _ hp, ?_⟩
  rw [Nat.mul_mod_mul_right, Nat.mul_div_cancel _ hp]
end Go.Proofs.YtamfhmmcnlollaaGreat
namespace Go.Proofs.YtamfhmmcnlollaaGreat
open Go.RowKit
set_option linter.unusedVariables false

/-- a rule for the walk that omega does not read -/
theorem lay {p : Prop} (h : p) : ∀ [Nonempty Unit], p := h
theorem castP (a s : Nat) : (a : Int) * 2 ^ s = ((a * 2 ^ s : Nat) : Int) := by rw [Int.natCast_mul, Int.natCast_pow]; rfl
theorem castD (a s : Nat) : (a : Int) / 2 ^ s = ((a / 2 ^ s : Nat) : Int) := by rw [Int.natCast_ediv, Int.natCast_pow]; rfl
theorem wrapP {a s : Nat} (h : a * 2 ^ s < W) : IntKind.u64.wrap ((a : Int) * 2 ^ s) = ((a * 2 ^ s : Nat) : Int) := by rw [castP]; exact wrapN _ h
theorem wrapP' (a s : Nat) : IntKind.u64.wrap ((a : Int) * 2 ^ s) = ((a * 2 ^ s % W : Nat) : Int) := by rw [castP, wrapM]; rfl
theorem andB {a : Nat} (h : a < W) : bits .and .u64 (a : Int) 4294967295 = ((a % B : Nat) : Int) := maskN a h
theorem orS {h L s : Nat} (hL : L < 2 ^ s) (hb : h * 2 ^ s + L < W) : bits .or .u64 ((h * 2 ^ s : Nat) : Int) (L : Int) = ((h * 2 ^ s + L : Nat) : Int) := by
  rw [W_eq] at hb
  refine Eq.trans (bits_or_u64_nat _ _ (by omega) (by omega)) ?_
  congr 1
  rw [Nat.mul_comm, ← Nat.two_pow_add_eq_or_of_lt hL]
theorem divNN (a b : Nat) : (a : Int) / (b : Int) = ((a / b : Nat) : Int) := (Int.natCast_ediv a b).symm
theorem divNB (a : Nat) : (a : Int) / 4294967296 = ((a / B : Nat) : Int) := divN a
theorem wrapMul {a b : Nat} (h : a * b < W) : IntKind.u64.wrap ((a : Int) * (b : Int)) = ((a * b : Nat) : Int) := by rw [mulN]; exact wrapN _ h
theorem wrapSub {X Z r : Nat} (h : X = Z + r) (hr : r < W) : IntKind.u64.wrap (((X % W : Nat) : Int) - ((Z % W : Nat) : Int)) = (r : Int) := by
  rw [IntKind.wrap_u64]
  rw [W_eq] at *
  omega
theorem wrapMulM (a b : Nat) : IntKind.u64.wrap ((a : Int) * (b : Int)) = ((a * b % W : Nat) : Int) := by rw [mulN, wrapM]; rfl
theorem wrapMulB (a : Nat) : IntKind.u64.wrap ((a : Int) * 4294967296) = ((a * B % W : Nat) : Int) := wrapMulM a B
theorem wrapAddM (a b : Nat) : IntKind.u64.wrap ((a : Int) + (b : Int)) = (((a + b) % W : Nat) : Int) := by rw [addN, wrapM]; rfl

set_option maxHeartbeats 4000000 in
set_option maxRecDepth 100000 in
theorem div64_big {h l y s : Nat} {w : World} (hs : s = 64 - blen y) (hy : y < W) (hh : h < y) (hl : l < W) (h0 : 0 < h) :
    Calls Tryz.prog 185 #[.int .u64 (h : Int), .int .u64 (l : Int), .int .u64 (y : Int)] w (fun e w' => e = .returned (.tuple #[.int .u64 (((h * W + l) / y : Nat) : Int), .int .u64 (((h * W + l) % y : Nat) : Int)]) ∧ w = w') := by
  have qq1 : ((y : Int) == 0) = false := by rw [beq_eq_false_iff_ne]; omega
  have qq2 : ((h : Int) == 0) = false := by rw [beq_eq_false_iff_ne]; omega
  have qq3 : ¬ y ≤ h := by omega
  have C := Lib.hid (lead64_any (w := w) rfl hy)
  rw [← hs] at C
  obtain ⟨n1, n2, n3⟩ := norm_y hy (by omega)
  rw [← hs] at n1 n2 n3
  have lp := low_part hl n3
  have ul := u32_lt hl n3 hh
  have UN := Lib.hid (unshift (N := h * W + l) (y := y) (s := s) (by omega))
  have NN : Hid ((h * W + l) * 2 ^ s = (h * 2 ^ s + l / 2 ^ (64 - s)) * W + l * 2 ^ s % W) := by
    show _ = _
    rw [Nat.add_mul, Nat.add_mul, Nat.mul_assoc, Nat.mul_comm W, ← Nat.mul_assoc]
    omega
  have hw : h * 2 ^ s + l / 2 ^ (64 - s) < W := Nat.lt_trans ul n1
  have hw2 : h * 2 ^ s < W := Nat.lt_of_le_of_lt (Nat.le_add_right _ _) hw
  have e1 := wrapP n1
  have e4 := wrapP (a := h) (s := s) hw2
  have e7 := wrapP' l s
  have e5 := castD l (64 - s)
  have e6 := orS (h := h) lp.2 hw
  have e3 := andB n1
  have e2 := divNB (y * 2 ^ s)
  have e9 := andB (a := l * 2 ^ s % W) (Nat.mod_lt _ W_pos)
  have e8 := divNB (l * 2 ^ s % W)
  have e10 := divNN (h * 2 ^ s + l / 2 ^ (64 - s)) (y * 2 ^ s / B)
  obtain ⟨hy1, hy2, hy3, hy4⟩ : y * 2 ^ s = y * 2 ^ s / B * B + y * 2 ^ s % B ∧ y * 2 ^ s % B < B ∧ B ≤ 2 * (y * 2 ^ s / B) ∧ y * 2 ^ s / B < B := by
    rw [W_eq] at n1 n2; rw [B_eq]; omega
  obtain ⟨hu1, hu2, hu3⟩ : l * 2 ^ s % W = l * 2 ^ s % W / B * B + l * 2 ^ s % W % B ∧ l * 2 ^ s % W / B < B ∧ l * 2 ^ s % W % B < B := by
    have := Nat.mod_lt (l * 2 ^ s) W_pos
    rw [W_eq] at this ⊢; rw [B_eq]; omega
  have HB2 := Lib.hid hy3
  have D1 := Lib.hid (Dig.start hy1 hy2 hy3 ul hu2 hy4)
  generalize y * 2 ^ s = Y at *
  generalize hHs : h * 2 ^ s = Hs at *
  generalize hLh : l / 2 ^ (64 - s) = Lh at *
  generalize hu10 : l * 2 ^ s % W = u10 at *
  generalize Hs + Lh = u32 at *
  generalize Y / B = y1 at *
  generalize Y % B = y0 at *
  generalize u10 / B = u1 at *
  generalize u10 % B = u0 at *
  generalize hqa : u32 / y1 = qa at *
  have k1 : 1 ≤ y1 := by rw [B_eq] at hy3; omega
  have e11 : IntKind.u64.wrap ((qa : Int) * (y1 : Int)) = ((qa * y1 : Nat) : Int) := wrapMul (by have := D1.out.1; omega)
  have e12 : (u32 : Int) - ((qa * y1 : Nat) : Int) = ((u32 % y1 : Nat) : Int) := by
    have := D1.out.1; omega
  have e13 : IntKind.u64.wrap (qa : Int) = (qa : Int) := wrapN _ (by have := D1.out.2.2.1; rw [B_eq] at this; omega)
  have e14 : IntKind.u64.wrap ((u32 % y1 : Nat) : Int) = ((u32 % y1 : Nat) : Int) := wrapN _ (by have := D1.out.2.2.2; rw [B_eq] at this; omega)
  generalize qa * y1 = pa at *
  generalize u32 % y1 = ra at *
  have HY1 := Lib.hid (And.intro hy1 (And.intro hy2 (And.intro hy4 (And.intro n1 (And.intro ul (And.intro hu1 (And.intro hu2 hu3)))))))
  clear lp ul n1 n2 hw hw2 hs hl hy hHs hLh hu10 hqa hy1 hy2 hy3 hy4 hu1 hu2 hu3 hh
  go_enter Tryz.func185, Tryz.ntmps185
  go_wp2_with (go_at_call 168; refine C.out.mono ?_; rintro e w' ⟨rfl, rfl⟩)
  clear e1 e2 e3 e4 e5 e6 e7 e8 e9 e10 e11 e12 e13 e14
  go_loop [15, 16] (fun qv rv => ∃ qh rh : Nat, Hid (Dig Y y1 y0 u32 u1 qh rh) ∧ qv = .int .u64 (qh : Int) ∧ rv = .int .u64 (rh : Int)) (fun qv _ => (intOf qv).toNat)
  case atStart => exact ⟨qa, ra, D1, rfl, rfl⟩
  case round =>
    obtain ⟨qh, rh, hI, rfl, rfl⟩ := hrel
    obtain ⟨hy1, hy2, hy4, n1, ul, hu1, hu2, hu3⟩ := HY1.out
    have hr : rh < 4294967296 := hI.out.2.2.2
    have hq : qh ≤ B + 1 := hI.out.2.2.1
    have g1 : u1 < 4294967296 := hu2
    have g2 : y1 < 4294967296 := hy4
    have mma : qh < B → IntKind.u64.wrap ((qh : Int) * (y0 : Int)) = ((qh * y0 : Nat) : Int) := fun h => wrapMul (by
      rw [W_BB]; exact Nat.mul_lt_mul'' h hy2)
    by_cases tta : B ≤ qh ∨ B * rh + u1 < qh * y0
    · have ova := Lib.hid (hI.out.over hy1 ul hu2 tta)
      obtain ⟨q1, eqa⟩ : ∃ q : Nat, qh = q + 1 := ⟨qh - 1, by have := Nat.lt_of_le_of_lt (Nat.zero_le _) ova.out; omega⟩
      have eda : (qh : Int) - 1 = (q1 : Int) := by omega
      have EQa := Lib.hid eqa
      have c1a : 1 ≤ qh := by omega
      have ewa : ∀ [Nonempty Unit], IntKind.u64.wrap (q1 : Int) = (q1 : Int) := lay (wrapN _ (by have := hI.out.2.2.1; rw [B_eq] at this; omega))
      clear eqa
      by_cases nba : rh + y1 < B
      · have nxa : Hid (Dig Y y1 y0 u32 u1 q1 (rh + y1)) := by
          have h1 := hI.out; have h2 := ova.out
          rw [EQa.out] at h1 h2
          exact h1.next h2 nba
        have d2a : decide ((4294967296 : Int) ≤ (rh : Int) + (y1 : Int)) = false := decide_eq_false (by rw [B_eq] at nba; omega)
        by_cases bqa : B ≤ qh
        · have d1a : decide ((4294967296 : Int) ≤ (qh : Int)) = true := decide_eq_true (by rw [B_eq] at bqa; omega)
          clear tta mma nba bqa hy1 hy2 hy4 n1 ul hu1 hu2 hu3
          go_wp2
          go_round
          case rel => exact ⟨q1, rh + y1, nxa, rfl, by go_num⟩
          case measure => simp [intOf]; have := EQa.out; omega
        · have d1a : decide ((4294967296 : Int) ≤ (qh : Int)) = false := decide_eq_false (by rw [B_eq] at bqa; omega)
          have m2a := mma (Nat.lt_of_not_le bqa)
          have tva : B * rh + u1 < qh * y0 := tta.resolve_left bqa
          generalize qh * y0 = Pa at m2a tva
          have M2a := lay m2a
          clear m2a
          have d3a : decide (4294967296 * (rh : Int) + (u1 : Int) < (Pa : Int)) = true := decide_eq_true (by rw [B_eq] at tva; omega)
          clear tta mma nba bqa tva hy1 hy2 hy4 n1 ul hu1 hu2 hu3
          go_wp2
          go_round
          case rel => exact ⟨q1, rh + y1, nxa, rfl, by go_num⟩
          case measure => simp [intOf]; have := EQa.out; omega
      · have exa : Hid (q1 = (u32 * B + u1) / Y) := by
          have h1 := hI.out; have h2 := ova.out
          rw [EQa.out] at h1 h2
          exact h1.break hy1 hy2 (by omega) h2 (by omega)
        have d2a : decide ((4294967296 : Int) ≤ (rh : Int) + (y1 : Int)) = true := decide_eq_true (by rw [B_eq] at nba; omega)
        by_cases bqa : B ≤ qh
        · have d1a : decide ((4294967296 : Int) ≤ (qh : Int)) = true := decide_eq_true (by rw [B_eq] at bqa; omega)
          clear tta mma nba bqa
          have r1lt : (u32 * B + u1) % Y < Y := Nat.mod_lt _ (by omega)
          have EX : Hid (q1 * Y + (u32 * B + u1) % Y = u32 * B + u1) := by
            have := (left_wrap exa.out n1 (by omega)).2; exact this
          obtain ⟨r1, hr1⟩ : ∃ r, r = (u32 * B + u1) % Y := ⟨_, rfl⟩
          rw [← hr1] at EX r1lt
          clear hr1
          have t1 := wrapMulB u32
          have t2 := wrapAddM (u32 * B % W) u1
          rw [Nat.mod_add_mod] at t2
          have t3 := wrapMulM q1 Y
          have t4 := wrapSub (X := u32 * B + u1) (Z := q1 * Y) (r := r1) EX.out.symm (by omega)
          have D2 := Lib.hid (Dig.start hy1 hy2 HB2.out r1lt hu3 hy4)
          have t10 := divNN r1 y1
          have t13 : IntKind.u64.wrap ((r1 / y1 : Nat) : Int) = ((r1 / y1 : Nat) : Int) := wrapN _ (by have := D2.out.2.2.1; rw [B_eq] at this; omega)
          have t14 : IntKind.u64.wrap ((r1 % y1 : Nat) : Int) = ((r1 % y1 : Nat) : Int) := wrapN _ (by have := D2.out.2.2.2; rw [B_eq] at this; omega)
          have t11 : IntKind.u64.wrap (((r1 / y1 : Nat) : Int) * (y1 : Int)) = ((r1 / y1 * y1 : Nat) : Int) := wrapMul (by have := D2.out.1; omega)
          have t12 : (r1 : Int) - ((r1 / y1 * y1 : Nat) : Int) = ((r1 % y1 : Nat) : Int) := by have := D2.out.1; omega
          have QB : Hid (q1 < B) := by show _ < _; rw [exa.out]; exact Dig.lt ul hu2
          generalize u32 * B % W = a1 at t1 t2
          generalize (u32 * B + u1) % W = a2 at t2 t4
          generalize q1 * Y % W = a3 at t3 t4
          generalize r1 / y1 * y1 = pb at t11 t12
          generalize r1 / y1 = qb at t10 t13 t11 D2
          generalize r1 % y1 = rb at t14 t12 D2
          have t1' := lay t1
          clear t1
          have t2' := lay t2
          clear t2
          have t3' := lay t3
          clear t3
          have t4' := lay t4
          clear t4
          have t10' := lay t10
          clear t10
          have t11' := lay t11
          clear t11
          have t12' := lay t12
          clear t12
          have t13' := lay t13
          clear t13
          have t14' := lay t14
          clear t14
          have HY2 := Lib.hid (And.intro hy1 (And.intro hy2 (And.intro hy4 (And.intro n1 (And.intro r1lt (And.intro hu1 (And.intro hu2 hu3)))))))
          clear hy1 hy2 hy4 n1 ul hu1 hu2 hu3 hq r1lt
          go_wp2
          clear t1' t2' t3' t4' t10' t11' t12' t13' t14'
          go_loop [16, 18] (fun rv qv => ∃ qh rh : Nat, Hid (Dig Y y1 y0 r1 u0 qh rh) ∧ rv = .int .u64 (rh : Int) ∧ qv = .int .u64 (qh : Int)) (fun _ qv => (intOf qv).toNat)
          case atStart => exact ⟨qb, rb, D2, rfl, rfl⟩
          case round =>
            obtain ⟨qg, rg, hJ, rfl, rfl⟩ := hrel
            obtain ⟨hy1, hy2, hy4, n1, r1lt, hu1, hu2, hu3⟩ := HY2.out
            have hrg : rg < 4294967296 := hJ.out.2.2.2
            have g1 : u0 < 4294967296 := hu3
            have g2 : y1 < 4294967296 := hy4
            have mmb : qg < B → IntKind.u64.wrap ((qg : Int) * (y0 : Int)) = ((qg * y0 : Nat) : Int) := fun h => wrapMul (by
              rw [W_BB]; exact Nat.mul_lt_mul'' h hy2)
            by_cases ttb : B ≤ qg ∨ B * rg + u0 < qg * y0
            · have ovb := Lib.hid (hJ.out.over hy1 r1lt hu3 ttb)
              obtain ⟨q0, eqb⟩ : ∃ q : Nat, qg = q + 1 := ⟨qg - 1, by have := Nat.lt_of_le_of_lt (Nat.zero_le _) ovb.out; omega⟩
              have edb : (qg : Int) - 1 = (q0 : Int) := by omega
              have EQb := Lib.hid eqb
              have c1b : 1 ≤ qg := by omega
              have ewb : ∀ [Nonempty Unit], IntKind.u64.wrap (q0 : Int) = (q0 : Int) := lay (wrapN _ (by have := hJ.out.2.2.1; rw [B_eq] at this; omega))
              clear eqb
              by_cases nbb : rg + y1 < B
              · have nxb : Hid (Dig Y y1 y0 r1 u0 q0 (rg + y1)) := by
                  have h1 := hJ.out; have h2 := ovb.out
                  rw [EQb.out] at h1 h2
                  exact h1.next h2 nbb
                have d2b : decide ((4294967296 : Int) ≤ (rg : Int) + (y1 : Int)) = false := decide_eq_false (by rw [B_eq] at nbb; omega)
                by_cases bqb : B ≤ qg
                · have d1b : decide ((4294967296 : Int) ≤ (qg : Int)) = true := decide_eq_true (by rw [B_eq] at bqb; omega)
                  clear ttb mmb nbb bqb hy1 hy2 hy4 n1 r1lt hu1 hu2 hu3
                  go_wp2
                  go_round
                  case rel => exact ⟨q0, rg + y1, nxb, by go_num, rfl⟩
                  case measure => simp [intOf]; have := EQb.out; omega
                · have d1b : decide ((4294967296 : Int) ≤ (qg : Int)) = false := decide_eq_false (by rw [B_eq] at bqb; omega)
                  have m2b := mmb (Nat.lt_of_not_le bqb)
                  have tvb : B * rg + u0 < qg * y0 := ttb.resolve_left bqb
                  generalize qg * y0 = Pb at m2b tvb
                  have M2b := lay m2b
                  clear m2b
                  have d3b : decide (4294967296 * (rg : Int) + (u0 : Int) < (Pb : Int)) = true := decide_eq_true (by rw [B_eq] at tvb; omega)
                  clear ttb mmb nbb bqb tvb hy1 hy2 hy4 n1 r1lt hu1 hu2 hu3
                  go_wp2
                  go_round
                  case rel => exact ⟨q0, rg + y1, nxb, by go_num, rfl⟩
                  case measure => simp [intOf]; have := EQb.out; omega
              · have exb : Hid (q0 = (r1 * B + u0) / Y) := by
                  have h1 := hJ.out; have h2 := ovb.out
                  rw [EQb.out] at h1 h2
                  exact h1.break hy1 hy2 (by omega) h2 (by omega)
                have d2b : decide ((4294967296 : Int) ≤ (rg : Int) + (y1 : Int)) = true := decide_eq_true (by rw [B_eq] at nbb; omega)
                by_cases bqb : B ≤ qg
                · have d1b : decide ((4294967296 : Int) ≤ (qg : Int)) = true := decide_eq_true (by rw [B_eq] at bqb; omega)
                  clear ttb mmb nbb bqb
                  have r0lt : (r1 * B + u0) % Y < Y := Nat.mod_lt _ (by omega)
                  have EX0 : Hid (q0 * Y + (r1 * B + u0) % Y = r1 * B + u0) := by
                    have := (left_wrap exb.out n1 (by omega)).2; exact this
                  obtain ⟨r0, hr0⟩ : ∃ r, r = (r1 * B + u0) % Y := ⟨_, rfl⟩
                  rw [← hr0] at EX0 r0lt
                  clear hr0
                  have QB0 : Hid (q0 < B) := by show _ < _; rw [exb.out]; exact Dig.lt r1lt hu3
                  have f1 : IntKind.u64.wrap ((q1 : Int) * 4294967296) = ((q1 * B : Nat) : Int) := wrapMul (b := B) (by rw [W_BB]; exact Nat.mul_lt_mul_of_pos_right QB.out (by decide))
                  have f2 : IntKind.u64.wrap (((q1 * B : Nat) : Int) + (q0 : Int)) = ((q1 * B + q0 : Nat) : Int) := by
                    rw [addN]
                    refine wrapN _ ?_
                    have h1 := QB.out; have h2 := QB0.out
                    rw [B_eq] at *
                    omega
                  have f3 := wrapMulB r1
                  have f4 := wrapAddM (r1 * B % W) u0
                  rw [Nat.mod_add_mod] at f4
                  have f5 := wrapMulM q0 Y
                  have f6 := wrapSub (X := r1 * B + u0) (Z := q0 * Y) (r := r0) EX0.out.symm (by omega)
                  have f7 := castD r0 s
                  have FIN : Hid ((h * W + l) / y = q1 * B + q0 ∧ (h * W + l) % y = r0 / 2 ^ s) := by
                    have h1 := two_digits (by omega) EX.out EX0.out r0lt
                    rw [← hu1, ← NN.out] at h1
                    rw [← UN.out.1, ← UN.out.2, h1.1, h1.2]
                    exact ⟨rfl, rfl⟩
                  have G1 := Lib.hid FIN.out.1
                  have G2 := Lib.hid FIN.out.2
                  generalize q1 * B + q0 = z1 at f2 G1
                  generalize q1 * B = z0 at f1 f2
                  generalize r1 * B % W = z2 at f3 f4
                  generalize (r1 * B + u0) % W = z3 at f4 f6
                  generalize q0 * Y % W = z4 at f5 f6
                  generalize r0 / 2 ^ s = z5 at f7 G2
                  have f1' := lay f1
                  clear f1
                  have f2' := lay f2
                  clear f2
                  have f3' := lay f3
                  clear f3
                  have f4' := lay f4
                  clear f4
                  have f5' := lay f5
                  clear f5
                  have f6' := lay f6
                  clear f6
                  have f7' := lay f7
                  clear f7
                  clear FIN hy1 hy2 hy4 n1 hu1 hu2 hu3 r0lt r1lt
                  go_wp2
                  go_ret2
                  exact ⟨ret_pair (natc G1.out.symm) (natc G2.out.symm), rfl⟩
                · have d1b : decide ((4294967296 : Int) ≤ (qg : Int)) = false := decide_eq_false (by rw [B_eq] at bqb; omega)
                  have m2b := mmb (Nat.lt_of_not_le bqb)
                  have tvb : B * rg + u0 < qg * y0 := ttb.resolve_left bqb
                  generalize qg * y0 = Pb at m2b tvb
                  have M2b := lay m2b
                  clear m2b
                  have d3b : decide (4294967296 * (rg : Int) + (u0 : Int) < (Pb : Int)) = true := decide_eq_true (by rw [B_eq] at tvb; omega)
                  clear ttb mmb nbb bqb tvb
                  have r0lt : (r1 * B + u0) % Y < Y := Nat.mod_lt _ (by omega)
                  have EX0 : Hid (q0 * Y + (r1 * B + u0) % Y = r1 * B + u0) := by
                    have := (left_wrap exb.out n1 (by omega)).2; exact this
                  obtain ⟨r0, hr0⟩ : ∃ r, r = (r1 * B + u0) % Y := ⟨_, rfl⟩
                  rw [← hr0] at EX0 r0lt
                  clear hr0
                  have QB0 : Hid (q0 < B) := by show _ < _; rw [exb.out]; exact Dig.lt r1lt hu3
                  have f1 : IntKind.u64.wrap ((q1 : Int) * 4294967296) = ((q1 * B : Nat) : Int) := wrapMul (b := B) (by rw [W_BB]; exact Nat.mul_lt_mul_of_pos_right QB.out (by decide))
                  have f2 : IntKind.u64.wrap (((q1 * B : Nat) : Int) + (q0 : Int)) = ((q1 * B + q0 : Nat) : Int) := by
                    rw [addN]
                    refine wrapN _ ?_
                    have h1 := QB.out; have h2 := QB0.out
                    rw [B_eq] at *
                    omega
                  have f3 := wrapMulB r1
                  have f4 := wrapAddM (r1 * B % W) u0
                  rw [Nat.mod_add_mod] at f4
                  have f5 := wrapMulM q0 Y
                  have f6 := wrapSub (X := r1 * B + u0) (Z := q0 * Y) (r := r0) EX0.out.symm (by omega)
                  have f7 := castD r0 s
                  have FIN : Hid ((h * W + l) / y = q1 * B + q0 ∧ (h * W + l) % y = r0 / 2 ^ s) := by
                    have h1 := two_digits (by omega) EX.out EX0.out r0lt
                    rw [← hu1, ← NN.out] at h1
                    rw [← UN.out.1, ← UN.out.2, h1.1, h1.2]
                    exact ⟨rfl, rfl⟩
                  have G1 := Lib.hid FIN.out.1
                  have G2 := Lib.hid FIN.out.2
                  generalize q1 * B + q0 = z1 at f2 G1
                  generalize q1 * B = z0 at f1 f2
                  generalize r1 * B % W = z2 at f3 f4
                  generalize (r1 * B + u0) % W = z3 at f4 f6
                  generalize q0 * Y % W = z4 at f5 f6
                  generalize r0 / 2 ^ s = z5 at f7 G2
                  have f1' := lay f1
                  clear f1
                  have f2' := lay f2
                  clear f2
                  have f3' := lay f3
                  clear f3
                  have f4' := lay f4
                  clear f4
                  have f5' := lay f5
                  clear f5
                  have f6' := lay f6
                  clear f6
                  have f7' := lay f7
                  clear f7
                  clear FIN hy1 hy2 hy4 n1 hu1 hu2 hu3 r0lt r1lt
                  go_wp2
                  go_ret2
                  exact ⟨ret_pair (natc G1.out.symm) (natc G2.out.symm), rfl⟩
            · have bqb : qg < B := by omega
              have m2b := mmb bqb
              have tvb : qg * y0 ≤ B * rg + u0 := by omega
              have efb : qg = (r1 * B + u0) / Y := hJ.out.fits hy1 (by omega) tvb
              have exb := Lib.hid efb
              have d1b : decide ((4294967296 : Int) ≤ (qg : Int)) = false := decide_eq_false (by rw [B_eq] at bqb; omega)
              generalize qg * y0 = Pb at m2b tvb
              have M2b := lay m2b
              clear m2b
              have d3b : decide (4294967296 * (rg : Int) + (u0 : Int) < (Pb : Int)) = false := decide_eq_false (by rw [B_eq] at tvb; omega)
              clear ttb mmb bqb tvb efb
              obtain ⟨q0, rfl⟩ : ∃ q0 : Nat, q0 = qg := ⟨qg, rfl⟩
              have r0lt : (r1 * B + u0) % Y < Y := Nat.mod_lt _ (by omega)
              have EX0 : Hid (q0 * Y + (r1 * B + u0) % Y = r1 * B + u0) := by
                have := (left_wrap exb.out n1 (by omega)).2; exact this
              obtain ⟨r0, hr0⟩ : ∃ r, r = (r1 * B + u0) % Y := ⟨_, rfl⟩
              rw [← hr0] at EX0 r0lt
              clear hr0
              have QB0 : Hid (q0 < B) := by show _ < _; rw [exb.out]; exact Dig.lt r1lt hu3
              have f1 : IntKind.u64.wrap ((q1 : Int) * 4294967296) = ((q1 * B : Nat) : Int) := wrapMul (b := B) (by rw [W_BB]; exact Nat.mul_lt_mul_of_pos_right QB.out (by decide))
              have f2 : IntKind.u64.wrap (((q1 * B : Nat) : Int) + (q0 : Int)) = ((q1 * B + q0 : Nat) : Int) := by
                rw [addN]
                refine wrapN _ ?_
                have h1 := QB.out; have h2 := QB0.out
                rw [B_eq] at *
                omega
              have f3 := wrapMulB r1
              have f4 := wrapAddM (r1 * B % W) u0
              rw [Nat.mod_add_mod] at f4
              have f5 := wrapMulM q0 Y
              have f6 := wrapSub (X := r1 * B + u0) (Z := q0 * Y) (r := r0) EX0.out.symm (by omega)
              have f7 := castD r0 s
              have FIN : Hid ((h * W + l) / y = q1 * B + q0 ∧ (h * W + l) % y = r0 / 2 ^ s) := by
                have h1 := two_digits (by omega) EX.out EX0.out r0lt
                rw [← hu1, ← NN.out] at h1
                rw [← UN.out.1, ← UN.out.2, h1.1, h1.2]
                exact ⟨rfl, rfl⟩
              have G1 := Lib.hid FIN.out.1
              have G2 := Lib.hid FIN.out.2
              generalize q1 * B + q0 = z1 at f2 G1
              generalize q1 * B = z0 at f1 f2
              generalize r1 * B % W = z2 at f3 f4
              generalize (r1 * B + u0) % W = z3 at f4 f6
              generalize q0 * Y % W = z4 at f5 f6
              generalize r0 / 2 ^ s = z5 at f7 G2
              have f1' := lay f1
              clear f1
              have f2' := lay f2
              clear f2
              have f3' := lay f3
              clear f3
              have f4' := lay f4
              clear f4
              have f5' := lay f5
              clear f5
              have f6' := lay f6
              clear f6
              have f7' := lay f7
              clear f7
              clear FIN hy1 hy2 hy4 n1 hu1 hu2 hu3 r0lt r1lt
              go_wp2
              go_ret2
              exact ⟨ret_pair (natc G1.out.symm) (natc G2.out.symm), rfl⟩
        · have d1a : decide ((4294967296 : Int) ≤ (qh : Int)) = false := decide_eq_false (by rw [B_eq] at bqa; omega)
          have m2a := mma (Nat.lt_of_not_le bqa)
          have tva : B * rh + u1 < qh * y0 := tta.resolve_left bqa
          generalize qh * y0 = Pa at m2a tva
          have M2a := lay m2a
          clear m2a
          have d3a : decide (4294967296 * (rh : Int) + (u1 : Int) < (Pa : Int)) = true := decide_eq_true (by rw [B_eq] at tva; omega)
          clear tta mma nba bqa tva
          have r1lt : (u32 * B + u1) % Y < Y := Nat.mod_lt _ (by omega)
          have EX : Hid (q1 * Y + (u32 * B + u1) % Y = u32 * B + u1) := by
            have := (left_wrap exa.out n1 (by omega)).2; exact this
          obtain ⟨r1, hr1⟩ : ∃ r, r = (u32 * B + u1) % Y := ⟨_, rfl⟩
          rw [← hr1] at EX r1lt
          clear hr1
          have t1 := wrapMulB u32
          have t2 := wrapAddM (u32 * B % W) u1
          rw [Nat.mod_add_mod] at t2
          have t3 := wrapMulM q1 Y
          have t4 := wrapSub (X := u32 * B + u1) (Z := q1 * Y) (r := r1) EX.out.symm (by omega)
          have D2 := Lib.hid (Dig.start hy1 hy2 HB2.out r1lt hu3 hy4)
          have t10 := divNN r1 y1
          have t13 : IntKind.u64.wrap ((r1 / y1 : Nat) : Int) = ((r1 / y1 : Nat) : Int) := wrapN _ (by have := D2.out.2.2.1; rw [B_eq] at this; omega)
          have t14 : IntKind.u64.wrap ((r1 % y1 : Nat) : Int) = ((r1 % y1 : Nat) : Int) := wrapN _ (by have := D2.out.2.2.2; rw [B_eq] at this; omega)
          have t11 : IntKind.u64.wrap (((r1 / y1 : Nat) : Int) * (y1 : Int)) = ((r1 / y1 * y1 : Nat) : Int) := wrapMul (by have := D2.out.1; omega)
          have t12 : (r1 : Int) - ((r1 / y1 * y1 : Nat) : Int) = ((r1 % y1 : Nat) : Int) := by have := D2.out.1; omega
          have QB : Hid (q1 < B) := by show _ < _; rw [exa.out]; exact Dig.lt ul hu2
          generalize u32 * B % W = a1 at t1 t2
          generalize (u32 * B + u1) % W = a2 at t2 t4
          generalize q1 * Y % W = a3 at t3 t4
          generalize r1 / y1 * y1 = pb at t11 t12
          generalize r1 / y1 = qb at t10 t13 t11 D2
          generalize r1 % y1 = rb at t14 t12 D2
          have t1' := lay t1
          clear t1
          have t2' := lay t2
          clear t2
          have t3' := lay t3
          clear t3
          have t4' := lay t4
          clear t4
          have t10' := lay t10
          clear t10
          have t11' := lay t11
          clear t11
          have t12' := lay t12
          clear t12
          have t13' := lay t13
          clear t13
          have t14' := lay t14
          clear t14
          have HY2 := Lib.hid (And.intro hy1 (And.intro hy2 (And.intro hy4 (And.intro n1 (And.intro r1lt (And.intro hu1 (And.intro hu2 hu3)))))))
          clear hy1 hy2 hy4 n1 ul hu1 hu2 hu3 hq r1lt
          go_wp2
          clear t1' t2' t3' t4' t10' t11' t12' t13' t14'
          go_loop [16, 18] (fun rv qv => ∃ qh rh : Nat, Hid (Dig Y y1 y0 r1 u0 qh rh) ∧ rv = .int .u64 (rh : Int) ∧ qv = .int .u64 (qh : Int)) (fun _ qv => (intOf qv).toNat)
          case atStart => exact ⟨qb, rb, D2, rfl, rfl⟩
          case round =>
            obtain ⟨qg, rg, hJ, rfl, rfl⟩ := hrel
            obtain ⟨hy1, hy2, hy4, n1, r1lt, hu1, hu2, hu3⟩ := HY2.out
            have hrg : rg < 4294967296 := hJ.out.2.2.2
            have g1 : u0 < 4294967296 := hu3
            have g2 : y1 < 4294967296 := hy4
            have mmb : qg < B → IntKind.u64.wrap ((qg : Int) * (y0 : Int)) = ((qg * y0 : Nat) : Int) := fun h => wrapMul (by
              rw [W_BB]; exact Nat.mul_lt_mul'' h hy2)
            by_cases ttb : B ≤ qg ∨ B * rg + u0 < qg * y0
            · have ovb := Lib.hid (hJ.out.over hy1 r1lt hu3 ttb)
              obtain ⟨q0, eqb⟩ : ∃ q : Nat, qg = q + 1 := ⟨qg - 1, by have := Nat.lt_of_le_of_lt (Nat.zero_le _) ovb.out; omega⟩
              have edb : (qg : Int) - 1 = (q0 : Int) := by omega
              have EQb := Lib.hid eqb
              have c1b : 1 ≤ qg := by omega
              have ewb : ∀ [Nonempty Unit], IntKind.u64.wrap (q0 : Int) = (q0 : Int) := lay (wrapN _ (by have := hJ.out.2.2.1; rw [B_eq] at this; omega))
              clear eqb
              by_cases nbb : rg + y1 < B
              · have nxb : Hid (Dig Y y1 y0 r1 u0 q0 (rg + y1)) := by
                  have h1 := hJ.out; have h2 := ovb.out
                  rw [EQb.out] at h1 h2
                  exact h1.next h2 nbb
                have d2b : decide ((4294967296 : Int) ≤ (rg : Int) + (y1 : Int)) = false := decide_eq_false (by rw [B_eq] at nbb; omega)
                by_cases bqb : B ≤ qg
                · have d1b : decide ((4294967296 : Int) ≤ (qg : Int)) = true := decide_eq_true (by rw [B_eq] at bqb; omega)
                  clear ttb mmb nbb bqb hy1 hy2 hy4 n1 r1lt hu1 hu2 hu3
                  go_wp2
                  go_round
                  case rel => exact ⟨q0, rg + y1, nxb, by go_num, rfl⟩
                  case measure => simp [intOf]; have := EQb.out; omega
                · have d1b : decide ((4294967296 : Int) ≤ (qg : Int)) = false := decide_eq_false (by rw [B_eq] at bqb; omega)
                  have m2b := mmb (Nat.lt_of_not_le bqb)
                  have tvb : B * rg + u0 < qg * y0 := ttb.resolve_left bqb
                  generalize qg * y0 = Pb at m2b tvb
                  have M2b := lay m2b
                  clear m2b
                  have d3b : decide (4294967296 * (rg : Int) + (u0 : Int) < (Pb : Int)) = true := decide_eq_true (by rw [B_eq] at tvb; omega)
                  clear ttb mmb nbb bqb tvb hy1 hy2 hy4 n1 r1lt hu1 hu2 hu3
                  go_wp2
                  go_round
                  case rel => exact ⟨q0, rg + y1, nxb, by go_num, rfl⟩
                  case measure => simp [intOf]; have := EQb.out; omega
              · have exb : Hid (q0 = (r1 * B + u0) / Y) := by
                  have h1 := hJ.out; have h2 := ovb.out
                  rw [EQb.out] at h1 h2
                  exact h1.break hy1 hy2 (by omega) h2 (by omega)
                have d2b : decide ((4294967296 : Int) ≤ (rg : Int) + (y1 : Int)) = true := decide_eq_true (by rw [B_eq] at nbb; omega)
                by_cases bqb : B ≤ qg
                · have d1b : decide ((4294967296 : Int) ≤ (qg : Int)) = true := decide_eq_true (by rw [B_eq] at bqb; omega)
                  clear ttb mmb nbb bqb
                  have r0lt : (r1 * B + u0) % Y < Y := Nat.mod_lt _ (by omega)
                  have EX0 : Hid (q0 * Y + (r1 * B + u0) % Y = r1 * B + u0) := by
                    have := (left_wrap exb.out n1 (by omega)).2; exact this
                  obtain ⟨r0, hr0⟩ : ∃ r, r = (r1 * B + u0) % Y := ⟨_, rfl⟩
                  rw [← hr0] at EX0 r0lt
                  clear hr0
                  have QB0 : Hid (q0 < B) := by show _ < _; rw [exb.out]; exact Dig.lt r1lt hu3
                  have f1 : IntKind.u64.wrap ((q1 : Int) * 4294967296) = ((q1 * B : Nat) : Int) := wrapMul (b := B) (by rw [W_BB]; exact Nat.mul_lt_mul_of_pos_right QB.out (by decide))
                  have f2 : IntKind.u64.wrap (((q1 * B : Nat) : Int) + (q0 : Int)) = ((q1 * B + q0 : Nat) : Int) := by
                    rw [addN]
                    refine wrapN _ ?_
                    have h1 := QB.out; have h2 := QB0.out
                    rw [B_eq] at *
                    omega
                  have f3 := wrapMulB r1
                  have f4 := wrapAddM (r1 * B % W) u0
                  rw [Nat.mod_add_mod] at f4
                  have f5 := wrapMulM q0 Y
                  have f6 := wrapSub (X := r1 * B + u0) (Z := q0 * Y) (r := r0) EX0.out.symm (by omega)
                  have f7 := castD r0 s
                  have FIN : Hid ((h * W + l) / y = q1 * B + q0 ∧ (h * W + l) % y = r0 / 2 ^ s) := by
                    have h1 := two_digits (by omega) EX.out EX0.out r0lt
                    rw [← hu1, ← NN.out] at h1
                    rw [← UN.out.1, ← UN.out.2, h1.1, h1.2]
                    exact ⟨rfl, rfl⟩
                  have G1 := Lib.hid FIN.out.1
                  have G2 := Lib.hid FIN.out.2
                  generalize q1 * B + q0 = z1 at f2 G1
                  generalize q1 * B = z0 at f1 f2
                  generalize r1 * B % W = z2 at f3 f4
                  generalize (r1 * B + u0) % W = z3 at f4 f6
                  generalize q0 * Y % W = z4 at f5 f6
                  generalize r0 / 2 ^ s = z5 at f7 G2
                  have f1' := lay f1
                  clear f1
                  have f2' := lay f2
                  clear f2
                  have f3' := lay f3
                  clear f3
                  have f4' := lay f4
                  clear f4
                  have f5' := lay f5
                  clear f5
                  have f6' := lay f6
                  clear f6
                  have f7' := lay f7
                  clear f7
                  clear FIN hy1 hy2 hy4 n1 hu1 hu2 hu3 r0lt r1lt
                  go_wp2
                  go_ret2
                  exact ⟨ret_pair (natc G1.out.symm) (natc G2.out.symm), rfl⟩
                · have d1b : decide ((4294967296 : Int) ≤ (qg : Int)) = false := decide_eq_false (by rw [B_eq] at bqb; omega)
                  have m2b := mmb (Nat.lt_of_not_le bqb)
                  have tvb : B * rg + u0 < qg * y0 := ttb.resolve_left bqb
                  generalize qg * y0 = Pb at m2b tvb
                  have M2b := lay m2b
                  clear m2b
                  have d3b : decide (4294967296 * (rg : Int) + (u0 : Int) < (Pb : Int)) = true := decide_eq_true (by rw [B_eq] at tvb; omega)
                  clear ttb mmb nbb bqb tvb
                  have r0lt : (r1 * B + u0) % Y < Y := Nat.mod_lt _ (by omega)
                  have EX0 : Hid (q0 * Y + (r1 * B + u0) % Y = r1 * B + u0) := by
                    have := (left_wrap exb.out n1 (by omega)).2; exact this
                  obtain ⟨r0, hr0⟩ : ∃ r, r = (r1 * B + u0) % Y := ⟨_, rfl⟩
                  rw [← hr0] at EX0 r0lt
                  clear hr0
                  have QB0 : Hid (q0 < B) := by show _ < _; rw [exb.out]; exact Dig.lt r1lt hu3
                  have f1 : IntKind.u64.wrap ((q1 : Int) * 4294967296) = ((q1 * B : Nat) : Int) := wrapMul (b := B) (by rw [W_BB]; exact Nat.mul_lt_mul_of_pos_right QB.out (by decide))
                  have f2 : IntKind.u64.wrap (((q1 * B : Nat) : Int) + (q0 : Int)) = ((q1 * B + q0 : Nat) : Int) := by
                    rw [addN]
                    refine wrapN _ ?_
                    have h1 := QB.out; have h2 := QB0.out
                    rw [B_eq] at *
                    omega
                  have f3 := wrapMulB r1
                  have f4 := wrapAddM (r1 * B % W) u0
                  rw [Nat.mod_add_mod] at f4
                  have f5 := wrapMulM q0 Y
                  have f6 := wrapSub (X := r1 * B + u0) (Z := q0 * Y) (r := r0) EX0.out.symm (by omega)
                  have f7 := castD r0 s
                  have FIN : Hid ((h * W + l) / y = q1 * B + q0 ∧ (h * W + l) % y = r0 / 2 ^ s) := by
                    have h1 := two_digits (by omega) EX.out EX0.out r0lt
                    rw [← hu1, ← NN.out] at h1
                    rw [← UN.out.1, ← UN.out.2, h1.1, h1.2]
                    exact ⟨rfl, rfl⟩
                  have G1 := Lib.hid FIN.out.1
                  have G2 := Lib.hid FIN.out.2
                  generalize q1 * B + q0 = z1 at f2 G1
                  generalize q1 * B = z0 at f1 f2
                  generalize r1 * B % W = z2 at f3 f4
                  generalize (r1 * B + u0) % W = z3 at f4 f6
                  generalize q0 * Y % W = z4 at f5 f6
                  generalize r0 / 2 ^ s = z5 at f7 G2
                  have f1' := lay f1
                  clear f1
                  have f2' := lay f2
                  clear f2
                  have f3' := lay f3
                  clear f3
                  have f4' := lay f4
                  clear f4
                  have f5' := lay f5
                  clear f5
                  have f6' := lay f6
                  clear f6
                  have f7' := lay f7
                  clear f7
                  clear FIN hy1 hy2 hy4 n1 hu1 hu2 hu3 r0lt r1lt
                  go_wp2
                  go_ret2
                  exact ⟨ret_pair (natc G1.out.symm) (natc G2.out.symm), rfl⟩
            · have bqb : qg < B := by omega
              have m2b := mmb bqb
              have tvb : qg * y0 ≤ B * rg + u0 := by omega
              have efb : qg = (r1 * B + u0) / Y := hJ.out.fits hy1 (by omega) tvb
              have exb := Lib.hid efb
              have d1b : decide ((4294967296 : Int) ≤ (qg : Int)) = false := decide_eq_false (by rw [B_eq] at bqb; omega)
              generalize qg * y0 = Pb at m2b tvb
              have M2b := lay m2b
              clear m2b
              have d3b : decide (4294967296 * (rg : Int) + (u0 : Int) < (Pb : Int)) = false := decide_eq_false (by rw [B_eq] at tvb; omega)
              clear ttb mmb bqb tvb efb
              obtain ⟨q0, rfl⟩ : ∃ q0 : Nat, q0 = qg := ⟨qg, rfl⟩
              have r0lt : (r1 * B + u0) % Y < Y := Nat.mod_lt _ (by omega)
              have EX0 : Hid (q0 * Y + (r1 * B + u0) % Y = r1 * B + u0) := by
                have := (left_wrap exb.out n1 (by omega)).2; exact this
              obtain ⟨r0, hr0⟩ : ∃ r, r = (r1 * B + u0) % Y := ⟨_, rfl⟩
              rw [← hr0] at EX0 r0lt
              clear hr0
              have QB0 : Hid (q0 < B) := by show _ < _; rw [exb.out]; exact Dig.lt r1lt hu3
              have f1 : IntKind.u64.wrap ((q1 : Int) * 4294967296) = ((q1 * B : Nat) : Int) := wrapMul (b := B) (by rw [W_BB]; exact Nat.mul_lt_mul_of_pos_right QB.out (by decide))
              have f2 : IntKind.u64.wrap (((q1 * B : Nat) : Int) + (q0 : Int)) = ((q1 * B + q0 : Nat) : Int) := by
                rw [addN]
                refine wrapN _ ?_
                have h1 := QB.out; have h2 := QB0.out
                rw [B_eq] at *
                omega
              have f3 := wrapMulB r1
              have f4 := wrapAddM (r1 * B % W) u0
              rw [Nat.mod_add_mod] at f4
              have f5 := wrapMulM q0 Y
              have f6 := wrapSub (X := r1 * B + u0) (Z := q0 * Y) (r := r0) EX0.out.symm (by omega)
              have f7 := castD r0 s
              have FIN : Hid ((h * W + l) / y = q1 * B + q0 ∧ (h * W + l) % y = r0 / 2 ^ s) := by
                have h1 := two_digits (by omega) EX.out EX0.out r0lt
                rw [← hu1, ← NN.out] at h1
                rw [← UN.out.1, ← UN.out.2, h1.1, h1.2]
                exact ⟨rfl, rfl⟩
              have G1 := Lib.hid FIN.out.1
              have G2 := Lib.hid FIN.out.2
              generalize q1 * B + q0 = z1 at f2 G1
              generalize q1 * B = z0 at f1 f2
              generalize r1 * B % W = z2 at f3 f4
              generalize (r1 * B + u0) % W = z3 at f4 f6
              generalize q0 * Y % W = z4 at f5 f6
              generalize r0 / 2 ^ s = z5 at f7 G2
              have f1' := lay f1
              clear f1
              have f2' := lay f2
              clear f2
              have f3' := lay f3
              clear f3
              have f4' := lay f4
              clear f4
              have f5' := lay f5
              clear f5
              have f6' := lay f6
              clear f6
              have f7' := lay f7
              clear f7
              clear FIN hy1 hy2 hy4 n1 hu1 hu2 hu3 r0lt r1lt
              go_wp2
              go_ret2
              exact ⟨ret_pair (natc G1.out.symm) (natc G2.out.symm), rfl⟩
    · have bqa : qh < B := by omega
      have m2a := mma bqa
      have tva : qh * y0 ≤ B * rh + u1 := by omega
      have efa : qh = (u32 * B + u1) / Y := hI.out.fits hy1 (by omega) tva
      have exa := Lib.hid efa
      have d1a : decide ((4294967296 : Int) ≤ (qh : Int)) = false := decide_eq_false (by rw [B_eq] at bqa; omega)
      generalize qh * y0 = Pa at m2a tva
      have M2a := lay m2a
      clear m2a
      have d3a : decide (4294967296 * (rh : Int) + (u1 : Int) < (Pa : Int)) = false := decide_eq_false (by rw [B_eq] at tva; omega)
      clear tta mma bqa tva efa
      obtain ⟨q1, rfl⟩ : ∃ q1 : Nat, q1 = qh := ⟨qh, rfl⟩
      have r1lt : (u32 * B + u1) % Y < Y := Nat.mod_lt _ (by omega)
      have EX : Hid (q1 * Y + (u32 * B + u1) % Y = u32 * B + u1) := by
        have := (left_wrap exa.out n1 (by omega)).2; exact this
      obtain ⟨r1, hr1⟩ : ∃ r, r = (u32 * B + u1) % Y := ⟨_, rfl⟩
      rw [← hr1] at EX r1lt
      clear hr1
      have t1 := wrapMulB u32
      have t2 := wrapAddM (u32 * B % W) u1
      rw [Nat.mod_add_mod] at t2
      have t3 := wrapMulM q1 Y
      have t4 := wrapSub (X := u32 * B + u1) (Z := q1 * Y) (r := r1) EX.out.symm (by omega)
      have D2 := Lib.hid (Dig.start hy1 hy2 HB2.out r1lt hu3 hy4)
      have t10 := divNN r1 y1
      have t13 : IntKind.u64.wrap ((r1 / y1 : Nat) : Int) = ((r1 / y1 : Nat) : Int) := wrapN _ (by have := D2.out.2.2.1; rw [B_eq] at this; omega)
      have t14 : IntKind.u64.wrap ((r1 % y1 : Nat) : Int) = ((r1 % y1 : Nat) : Int) := wrapN _ (by have := D2.out.2.2.2; rw [B_eq] at this; omega)
      have t11 : IntKind.u64.wrap (((r1 / y1 : Nat) : Int) * (y1 : Int)) = ((r1 / y1 * y1 : Nat) : Int) := wrapMul (by have := D2.out.1; omega)
      have t12 : (r1 : Int) - ((r1 / y1 * y1 : Nat) : Int) = ((r1 % y1 : Nat) : Int) := by have := D2.out.1; omega
      have QB : Hid (q1 < B) := by show _ < _; rw [exa.out]; exact Dig.lt ul hu2
      generalize u32 * B % W = a1 at t1 t2
      generalize (u32 * B + u1) % W = a2 at t2 t4
      generalize q1 * Y % W = a3 at t3 t4
      generalize r1 / y1 * y1 = pb at t11 t12
      generalize r1 / y1 = qb at t10 t13 t11 D2
      generalize r1 % y1 = rb at t14 t12 D2
      have t1' := lay t1
      clear t1
      have t2' := lay t2
      clear t2
      have t3' := lay t3
      clear t3
      have t4' := lay t4
      clear t4
      have t10' := lay t10
      clear t10
      have t11' := lay t11
      clear t11
      have t12' := lay t12
      clear t12
      have t13' := lay t13
      clear t13
      have t14' := lay t14
      clear t14
      have HY2 := Lib.hid (And.intro hy1 (And.intro hy2 (And.intro hy4 (And.intro n1 (And.intro r1lt (And.intro hu1 (And.intro hu2 hu3)))))))
      clear hy1 hy2 hy4 n1 ul hu1 hu2 hu3 hq r1lt
      go_wp2
      clear t1' t2' t3' t4' t10' t11' t12' t13' t14'
      go_loop [16, 18] (fun rv qv => ∃ qh rh : Nat, Hid (Dig Y y1 y0 r1 u0 qh rh) ∧ rv = .int .u64 (rh : Int) ∧ qv = .int .u64 (qh : Int)) (fun _ qv => (intOf qv).toNat)
      case atStart => exact ⟨qb, rb, D2, rfl, rfl⟩
      case round =>
        obtain ⟨qg, rg, hJ, rfl, rfl⟩ := hrel
        obtain ⟨hy1, hy2, hy4, n1, r1lt, hu1, hu2, hu3⟩ := HY2.out
        have hrg : rg < 4294967296 := hJ.out.2.2.2
        have g1 : u0 < 4294967296 := hu3
        have g2 : y1 < 4294967296 := hy4
        have mmb : qg < B → IntKind.u64.wrap ((qg : Int) * (y0 : Int)) = ((qg * y0 : Nat) : Int) := fun h => wrapMul (by
          rw [W_BB]; exact Nat.mul_lt_mul'' h hy2)
        by_cases ttb : B ≤ qg ∨ B * rg + u0 < qg * y0
        · have ovb := Lib.hid (hJ.out.over hy1 r1lt hu3 ttb)
          obtain ⟨q0, eqb⟩ : ∃ q : Nat, qg = q + 1 := ⟨qg - 1, by have := Nat.lt_of_le_of_lt (Nat.zero_le _) ovb.out; omega⟩
          have edb : (qg : Int) - 1 = (q0 : Int) := by omega
          have EQb := Lib.hid eqb
          have c1b : 1 ≤ qg := by omega
          have ewb : ∀ [Nonempty Unit], IntKind.u64.wrap (q0 : Int) = (q0 : Int) := lay (wrapN _ (by have := hJ.out.2.2.1; rw [B_eq] at this; omega))
          clear eqb
          by_cases nbb : rg + y1 < B
          · have nxb : Hid (Dig Y y1 y0 r1 u0 q0 (rg + y1)) := by
              have h1 := hJ.out; have h2 := ovb.out
              rw [EQb.out] at h1 h2
              exact h1.next h2 nbb
            have d2b : decide ((4294967296 : Int) ≤ (rg : Int) + (y1 : Int)) = false := decide_eq_false (by rw [B_eq] at nbb; omega)
            by_cases bqb : B ≤ qg
            · have d1b : decide ((4294967296 : Int) ≤ (qg : Int)) = true := decide_eq_true (by rw [B_eq] at bqb; omega)
              clear ttb mmb nbb bqb hy1 hy2 hy4 n1 r1lt hu1 hu2 hu3
              go_wp2
              go_round
              case rel => exact ⟨q0, rg + y1, nxb, by go_num, rfl⟩
              case measure => simp [intOf]; have := EQb.out; omega
            · have d1b : decide ((4294967296 : Int) ≤ (qg : Int)) = false := decide_eq_false (by rw [B_eq] at bqb; omega)
              have m2b := mmb (Nat.lt_of_not_le bqb)
              have tvb : B * rg + u0 < qg * y0 := ttb.resolve_left bqb
              generalize qg * y0 = Pb at m2b tvb
              have M2b := lay m2b
              clear m2b
              have d3b : decide (4294967296 * (rg : Int) + (u0 : Int) < (Pb : Int)) = true := decide_eq_true (by rw [B_eq] at tvb; omega)
              clear ttb mmb nbb bqb tvb hy1 hy2 hy4 n1 r1lt hu1 hu2 hu3
              go_wp2
              go_round
              case rel => exact ⟨q0, rg + y1, nxb, by go_num, rfl⟩
              case measure => simp [intOf]; have := EQb.out; omega
          · have exb : Hid (q0 = (r1 * B + u0) / Y) := by
              have h1 := hJ.out; have h2 := ovb.out
              rw [EQb.out] at h1 h2
              exact h1.break hy1 hy2 (by omega) h2 (by omega)
            have d2b : decide ((4294967296 : Int) ≤ (rg : Int) + (y1 : Int)) = true := decide_eq_true (by rw [B_eq] at nbb; omega)
            by_cases bqb : B ≤ qg
            · have d1b : decide ((4294967296 : Int) ≤ (qg : Int)) = true := decide_eq_true (by rw [B_eq] at bqb; omega)
              clear ttb mmb nbb bqb
              have r0lt : (r1 * B + u0) % Y < Y := Nat.mod_lt _ (by omega)
              have EX0 : Hid (q0 * Y + (r1 * B + u0) % Y = r1 * B + u0) := by
                have := (left_wrap exb.out n1 (by omega)).2; exact this
              obtain ⟨r0, hr0⟩ : ∃ r, r = (r1 * B + u0) % Y := ⟨_, rfl⟩
              rw [← hr0] at EX0 r0lt
              clear hr0
              have QB0 : Hid (q0 < B) := by show _ < _; rw [exb.out]; exact Dig.lt r1lt hu3
              have f1 : IntKind.u64.wrap ((q1 : Int) * 4294967296) = ((q1 * B : Nat) : Int) := wrapMul (b := B) (by rw [W_BB]; exact Nat.mul_lt_mul_of_pos_right QB.out (by decide))
              have f2 : IntKind.u64.wrap (((q1 * B : Nat) : Int) + (q0 : Int)) = ((q1 * B + q0 : Nat) : Int) := by
                rw [addN]
                refine wrapN _ ?_
                have h1 := QB.out; have h2 := QB0.out
                rw [B_eq] at *
                omega
              have f3 := wrapMulB r1
              have f4 := wrapAddM (r1 * B % W) u0
              rw [Nat.mod_add_mod] at f4
              have f5 := wrapMulM q0 Y
              have f6 := wrapSub (X := r1 * B + u0) (Z := q0 * Y) (r := r0) EX0.out.symm (by omega)
              have f7 := castD r0 s
              have FIN : Hid ((h * W + l) / y = q1 * B + q0 ∧ (h * W + l) % y = r0 / 2 ^ s) := by
                have h1 := two_digits (by omega) EX.out EX0.out r0lt
                rw [← hu1, ← NN.out] at h1
                rw [← UN.out.1, ← UN.out.2, h1.1, h1.2]
                exact ⟨rfl, rfl⟩
              have G1 := Lib.hid FIN.out.1
              have G2 := Lib.hid FIN.out.2
              generalize q1 * B + q0 = z1 at f2 G1
              generalize q1 * B = z0 at f1 f2
              generalize r1 * B % W = z2 at f3 f4
              generalize (r1 * B + u0) % W = z3 at f4 f6
              generalize q0 * Y % W = z4 at f5 f6
              generalize r0 / 2 ^ s = z5 at f7 G2
              have f1' := lay f1
              clear f1
              have f2' := lay f2
              clear f2
              have f3' := lay f3
              clear f3
              have f4' := lay f4
              clear f4
              have f5' := lay f5
              clear f5
              have f6' := lay f6
              clear f6
              have f7' := lay f7
              clear f7
              clear FIN hy1 hy2 hy4 n1 hu1 hu2 hu3 r0lt r1lt
              go_wp2
              go_ret2
              exact ⟨ret_pair (natc G1.out.symm) (natc G2.out.symm), rfl⟩
            · have d1b : decide ((4294967296 : Int) ≤ (qg : Int)) = false := decide_eq_false (by rw [B_eq] at bqb; omega)
              have m2b := mmb (Nat.lt_of_not_le bqb)
              have tvb : B * rg + u0 < qg * y0 := ttb.resolve_left bqb
              generalize qg * y0 = Pb at m2b tvb
              have M2b := lay m2b
              clear m2b
              have d3b : decide (4294967296 * (rg : Int) + (u0 : Int) < (Pb : Int)) = true := decide_eq_true (by rw [B_eq] at tvb; omega)
              clear ttb mmb nbb bqb tvb
              have r0lt : (r1 * B + u0) % Y < Y := Nat.mod_lt _ (by omega)
              have EX0 : Hid (q0 * Y + (r1 * B + u0) % Y = r1 * B + u0) := by
                have := (left_wrap exb.out n1 (by omega)).2; exact this
              obtain ⟨r0, hr0⟩ : ∃ r, r = (r1 * B + u0) % Y := ⟨_, rfl⟩
              rw [← hr0] at EX0 r0lt
              clear hr0
              have QB0 : Hid (q0 < B) := by show _ < _; rw [exb.out]; exact Dig.lt r1lt hu3
              have f1 : IntKind.u64.wrap ((q1 : Int) * 4294967296) = ((q1 * B : Nat) : Int) := wrapMul (b := B) (by rw [W_BB]; exact Nat.mul_lt_mul_of_pos_right QB.out (by decide))
              have f2 : IntKind.u64.wrap (((q1 * B : Nat) : Int) + (q0 : Int)) = ((q1 * B + q0 : Nat) : Int) := by
                rw [addN]
                refine wrapN _ ?_
                have h1 := QB.out; have h2 := QB0.out
                rw [B_eq] at *
                omega
              have f3 := wrapMulB r1
              have f4 := wrapAddM (r1 * B % W) u0
              rw [Nat.mod_add_mod] at f4
              have f5 := wrapMulM q0 Y
              have f6 := wrapSub (X := r1 * B + u0) (Z := q0 * Y) (r := r0) EX0.out.symm (by omega)
              have f7 := castD r0 s
              have FIN : Hid ((h * W + l) / y = q1 * B + q0 ∧ (h * W + l) % y = r0 / 2 ^ s) := by
                have h1 := two_digits (by omega) EX.out EX0.out r0lt
                rw [← hu1, ← NN.out] at h1
                rw [← UN.out.1, ← UN.out.2, h1.1, h1.2]
                exact ⟨rfl, rfl⟩
              have G1 := Lib.hid FIN.out.1
              have G2 := Lib.hid FIN.out.2
              generalize q1 * B + q0 = z1 at f2 G1
              generalize q1 * B = z0 at f1 f2
              generalize r1 * B % W = z2 at f3 f4
              generalize (r1 * B + u0) % W = z3 at f4 f6
              generalize q0 * Y % W = z4 at f5 f6
              generalize r0 / 2 ^ s = z5 at f7 G2
              have f1' := lay f1
              clear f1
              have f2' := lay f2
              clear f2
              have f3' := lay f3
              clear f3
              have f4' := lay f4
              clear f4
              have f5' := lay f5
              clear f5
              have f6' := lay f6
              clear f6
              have f7' := lay f7
              clear f7
              clear FIN hy1 hy2 hy4 n1 hu1 hu2 hu3 r0lt r1lt
              go_wp2
              go_ret2
              exact ⟨ret_pair (natc G1.out.symm) (natc G2.out.symm), rfl⟩
        · have bqb : qg < B := by omega
          have m2b := mmb bqb
          have tvb : qg * y0 ≤ B * rg + u0 := by omega
          have efb : qg = (r1 * B + u0) / Y := hJ.out.fits hy1 (by omega) tvb
          have exb := Lib.hid efb
          have d1b : decide ((4294967296 : Int) ≤ (qg : Int)) = false := decide_eq_false (by rw [B_eq] at bqb; omega)
          generalize qg * y0 = Pb at m2b tvb
          have M2b := lay m2b
          clear m2b
          have d3b : decide (4294967296 * (rg : Int) + (u0 : Int) < (Pb : Int)) = false := decide_eq_false (by rw [B_eq] at tvb; omega)
          clear ttb mmb bqb tvb efb
          obtain ⟨q0, rfl⟩ : ∃ q0 : Nat, q0 = qg := ⟨qg, rfl⟩
          have r0lt : (r1 * B + u0) % Y < Y := Nat.mod_lt _ (by omega)
          have EX0 : Hid (q0 * Y + (r1 * B + u0) % Y = r1 * B + u0) := by
            have := (left_wrap exb.out n1 (by omega)).2; exact this
          obtain ⟨r0, hr0⟩ : ∃ r, r = (r1 * B + u0) % Y := ⟨_, rfl⟩
          rw [← hr0] at EX0 r0lt
          clear hr0
          have QB0 : Hid (q0 < B) := by show _ < _; rw [exb.out]; exact Dig.lt r1lt hu3
          have f1 : IntKind.u64.wrap ((q1 : Int) * 4294967296) = ((q1 * B : Nat) : Int) := wrapMul (b := B) (by rw [W_BB]; exact Nat.mul_lt_mul_of_pos_right QB.out (by decide))
          have f2 : IntKind.u64.wrap (((q1 * B : Nat) : Int) + (q0 : Int)) = ((q1 * B + q0 : Nat) : Int) := by
            rw [addN]
            refine wrapN _ ?_
            have h1 := QB.out; have h2 := QB0.out
            rw [B_eq] at *
            omega
          have f3 := wrapMulB r1
          have f4 := wrapAddM (r1 * B % W) u0
          rw [Nat.mod_add_mod] at f4
          have f5 := wrapMulM q0 Y
          have f6 := wrapSub (X := r1 * B + u0) (Z := q0 * Y) (r := r0) EX0.out.symm (by omega)
          have f7 := castD r0 s
          have FIN : Hid ((h * W + l) / y = q1 * B + q0 ∧ (h * W + l) % y = r0 / 2 ^ s) := by
            have h1 := two_digits (by omega) EX.out EX0.out r0lt
            rw [← hu1, ← NN.out] at h1
            rw [← UN.out.1, ← UN.out.2, h1.1, h1.2]
            exact ⟨rfl, rfl⟩
          have G1 := Lib.hid FIN.out.1
          have G2 := Lib.hid FIN.out.2
          generalize q1 * B + q0 = z1 at f2 G1
          generalize q1 * B = z0 at f1 f2
          generalize r1 * B % W = z2 at f3 f4
          generalize (r1 * B + u0) % W = z3 at f4 f6
          generalize q0 * Y % W = z4 at f5 f6
          generalize r0 / 2 ^ s = z5 at f7 G2
          have f1' := lay f1
          clear f1
          have f2' := lay f2
          clear f2
          have f3' := lay f3
          clear f3
          have f4' := lay f4
          clear f4
          have f5' := lay f5
          clear f5
          have f6' := lay f6
          clear f6
          have f7' := lay f7
          clear f7
          clear FIN hy1 hy2 hy4 n1 hu1 hu2 hu3 r0lt r1lt
          go_wp2
          go_ret2
          exact ⟨ret_pair (natc G1.out.symm) (natc G2.out.symm), rfl⟩
end Go.Proofs.YtamfhmmcnlollaaGreat
