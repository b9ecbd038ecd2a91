/-
  Walks: div.correct, guess.
-/
import Derived.Test.YtnmfmdilhepmjaaKnuB
import Derived.Test.YtnmfmdilhepmjaaDivOne
import Derived.Test.YtnmfmdilhepmjaaPack
namespace Go.Proofs.Ytnmfmdilhepmjaa
open Go.RowKit
set_option linter.unusedVariables false

theorem run_add' (x y : Nat) : ∀ (w : World), (callFunc 76 #[.int .u64 (x : Int), .int .u64 (y : Int), .int .u64 0]).run Try.prog w =
    .ok (.value (.tuple #[.int .u64 ((lo (x + y) : Nat) : Int), .int .u64 ((hi (x + y) : Nat) : Int)])) w := fun w => run_add x y w
/-- does the second digit say that it isn't too great? -/
def corB (q v0 rest u0 : Nat) : Bool := decide (q * v0 ≤ rest * W + u0)

set_option maxHeartbeats 2000000 in
theorem correct_any {T u0 v1 v0 q rest : Nat} {w : World} (h : CorI T u0 v1 v0 q rest) (hr : rest < W) (hv : 0 < v1) (hv1 : v1 < W) (hv0 : v0 < W) (hu : u0 < W) :
    Calls Try.prog 81 #[.int .u64 (q : Int), .int .u64 (rest : Int), .int .u64 (u0 : Int), .int .u64 (v1 : Int), .int .u64 (v0 : Int)] w (fun e w' => e = .returned (.int .u64 ((gq (T * W + u0) (v1 * W + v0) : Nat) : Int)) ∧ w = w') := by
  have HV := Lib.hid hv
  have HV1 := Lib.hid hv1
  have HV0 := Lib.hid hv0
  have HU := Lib.hid hu
  have HS := Lib.hid (And.intro h hr)
  obtain ⟨g, hg⟩ : ∃ g, g = gq (T * W + u0) (v1 * W + v0) := ⟨_, rfl⟩
  have HG := Lib.hid hg
  rw [← hg]
  clear hv hv1 hv0 hu h hr hg
  go_enter Try.func81, Try.ntmps81
  go_wp2
  go_step3
  go_wp2
  go_step3
  go_wp2
  go_loop [0, 1] (fun qv rv => ∃ (q rest : Nat), Hid (CorI T u0 v1 v0 q rest ∧ rest < W) ∧ qv = .int .u64 (q : Int) ∧ rv = .int .u64 (rest : Int)) (fun qv _ => (intOf qv).toNat)
  case atStart => exact ⟨_, _, HS, rfl, rfl⟩
  case round =>
    obtain ⟨q, rest, hI, rfl, rfl⟩ := hrel
    have C1 := Lib.hid (mul64_any q v0 w hI.out.1.2.2 HV0.out rfl rfl)
    have HT := Lib.hid (hi_lo (q := q) (v0 := v0) (rest := rest) HU.out)
    have e1 : q * v0 / W = hi (q * v0) := rfl
    have e2 : q * v0 % W = lo (q * v0) := rfl
    rw [e1, e2] at HT
    by_cases hs : q * v0 ≤ rest * W + u0
    · have HE : Hid (g = q) := by show _ = _; rw [HG.out]; exact hI.out.1.stop HV.out hs
      have hd := HT.out.2 hs
      clear e1 e2 HT hs
      generalize hi (q * v0) = a at *
      generalize lo (q * v0) = b at *
      rcases hd with hd | ⟨hd, hd2⟩
      · have d1 : decide (a < rest) = true := by simpa using hd
        clear hd
        go_wp2_with fail
        refine C1.out.mono ?_
        rintro e w' ⟨rfl, rfl⟩
        go_wp2
        rw [Exit.noGoto_ret]
        go_ret
        exact ⟨by rw [HE.out]; rfl, rfl⟩
      · subst hd
        have d2 : decide (b ≤ u0) = true := by simpa using hd2
        clear hd2
        go_wp2_with fail
        refine C1.out.mono ?_
        rintro e w' ⟨rfl, rfl⟩
        go_wp2
        rw [Exit.noGoto_ret]
        go_ret
        exact ⟨by rw [HE.out]; rfl, rfl⟩
    · obtain ⟨p, rfl, hI2⟩ := hI.out.1.step HV.out hs
      have hd : ¬ (hi ((p + 1) * v0) < rest ∨ hi ((p + 1) * v0) = rest ∧ lo ((p + 1) * v0) ≤ u0) := fun h => hs (HT.out.1 h)
      have HI2 := Lib.hid hI2
      have HR := Lib.hid hI.out.2
      have a1 := run_add rest v1 w
      have hpW : p < W := hI2.2.2
      have hsum : rest + v1 < W ∧ hi (rest + v1) = 0 ∧ lo (rest + v1) = rest + v1 ∨ W ≤ rest + v1 ∧ hi (rest + v1) = 1 := by
        have h1 := HR.out
        have h2 := HV1.out
        unfold hi lo
        rw [W_eq] at *
        omega
      have q1 := lay (show IntKind.u64.wrap (p : Int) = (p : Int) from wrapN p (by rw [W_eq] at hpW; exact hpW))
      clear e1 e2 HT hs hI hI2 hpW
      generalize hi ((p + 1) * v0) = a at *
      generalize lo ((p + 1) * v0) = b at *
      have d1 : decide (a < rest) = false := by simp; omega
      have hd3 : a = rest ∧ u0 < b ∨ rest < a := by omega
      clear hd
      rcases hd3 with ⟨hd4, hd3⟩ | hd3
      · obtain rfl : rest = a := hd4.symm
        have d2 : decide (b ≤ u0) = false := by simp; omega
        clear hd3
        rcases hsum with ⟨s1, s2, s3⟩ | ⟨s1, s2⟩
        · rw [s2, s3] at a1
          have HS1 := Lib.hid s1
          clear s1 s2 s3
          go_wp2_with fail
          refine C1.out.mono ?_
          rintro e w' ⟨rfl, rfl⟩
          go_wp2
          go_round
          case rel => exact ⟨p, rest + v1, ⟨HI2.out, HS1.out⟩, by go_num, by go_num⟩
          case measure => simp [intOf]
        · rw [s2] at a1
          have HE : Hid (g = p) := by show _ = _; rw [HG.out]; exact HI2.out.over HV.out HV0.out s1
          clear s1 s2
          go_wp2_with fail
          refine C1.out.mono ?_
          rintro e w' ⟨rfl, rfl⟩
          go_wp2
          rw [Exit.noGoto_ret]
          go_ret
          exact ⟨by rw [HE.out]; rfl, rfl⟩
      · have d2 : ((a : Int) == (rest : Int)) = false := by rw [beq_eq_false_iff_ne]; omega
        clear hd3
        rcases hsum with ⟨s1, s2, s3⟩ | ⟨s1, s2⟩
        · rw [s2, s3] at a1
          have HS1 := Lib.hid s1
          clear s1 s2 s3
          go_wp2_with fail
          refine C1.out.mono ?_
          rintro e w' ⟨rfl, rfl⟩
          go_wp2
          go_round
          case rel => exact ⟨p, rest + v1, ⟨HI2.out, HS1.out⟩, by go_num, by go_num⟩
          case measure => simp [intOf]
        · rw [s2] at a1
          have HE : Hid (g = p) := by show _ = _; rw [HG.out]; exact HI2.out.over HV.out HV0.out s1
          clear s1 s2
          go_wp2_with fail
          refine C1.out.mono ?_
          rintro e w' ⟨rfl, rfl⟩
          go_wp2
          rw [Exit.noGoto_ret]
          go_ret
          exact ⟨by rw [HE.out]; rfl, rfl⟩
/-- the digit that is guessed: right, or 1 too great -/
theorem guess_any {u2 u1 u0 v1 v0 : Nat} {w : World} (hv : 0 < v1) (hv1 : v1 < W) (hv0 : v0 < W) (h1 : u1 < W) (hu : u0 < W) (h2 : u2 ≤ v1) :
    Calls Try.prog 62 #[.int .u64 (u2 : Int), .int .u64 (u1 : Int), .int .u64 (u0 : Int), .int .u64 (v1 : Int), .int .u64 (v0 : Int)] w (Keeps (.int .u64 ((gq ((u2 * W + u1) * W + u0) (v1 * W + v0) : Nat) : Int)) w) := by
  rcases Nat.lt_or_ge u2 v1 with h | h
  · have d1 : decide (v1 ≤ u2) = false := by simp; omega
    have HD := Lib.hid (CorI.div (T := u2 * W + u1) (u0 := u0) (v1 := v1) (v0 := v0) hv hu ((Nat.div_lt_iff_lt_mul hv).2 (by
      have := Nat.mul_le_mul_right W (show u2 + 1 ≤ v1 by omega)
      rw [Nat.add_mul, Nat.mul_comm v1] at this
      omega)))
    have HM := Lib.hid (Nat.lt_trans (Nat.mod_lt (u2 * W + u1) hv) hv1)
    have C := Lib.hid (div64_any (w := w) (h := u2) (l := u1) (y := v1) rfl rfl rfl h h1 hv1)
    have HC := fun w => Lib.hid (correct_any (w := w) HD.out HM.out hv hv1 hv0 hu)
    clear HD HM hv hv1 hv0 h1 hu h2 h
    generalize (u2 * W + u1) / v1 = a at *
    generalize (u2 * W + u1) % v1 = b at *
    generalize gq ((u2 * W + u1) * W + u0) (v1 * W + v0) = g at *
    go_enter Try.func62, Try.ntmps62
    go_wp2_with fail
    refine C.out.mono ?_
    rintro e w1 ⟨rfl, hb1⟩
    go_wp2_with fail
    refine (HC w1).out.mono ?_
    rintro e w' ⟨rfl, rfl⟩
    go_wp2
    go_ret
    exact ⟨rfl, hb1⟩
  · obtain rfl : u2 = v1 := by omega
    have HD := Lib.hid (CorI.top (u2 := u2) (u1 := u1) (u0 := u0) (v0 := v0) rfl hv1)
    have a1 := run_add u1 u2 w
    have hsum : u1 + u2 < W ∧ hi (u1 + u2) = 0 ∧ lo (u1 + u2) = u1 + u2 ∨ W ≤ u1 + u2 ∧ hi (u1 + u2) = 1 := by
      unfold hi lo
      rw [W_eq] at *
      omega
    have EW : Hid (((W - 1 : Nat) : Int) = 18446744073709551615) := rfl
    rcases hsum with ⟨s1, s2, s3⟩ | ⟨s1, s2⟩
    · rw [s2, s3] at a1
      have C := Lib.hid (correct_any (w := w) HD.out s1 hv hv1 hv0 hu)
      rw [EW.out] at C
      clear HD hv hv1 hv0 h1 hu h2 h s1 s2 s3
      generalize gq ((u2 * W + u1) * W + u0) (u2 * W + v0) = g at *
      go_enter Try.func62, Try.ntmps62
      go_wp2_with fail
      refine C.out.mono ?_
      rintro e w' ⟨rfl, rfl⟩
      go_wp2
      go_ret
      exact ⟨rfl, Below.refl _ _⟩
    · rw [s2] at a1
      have HE : Hid (gq ((u2 * W + u1) * W + u0) (u2 * W + v0) = W - 1) := HD.out.over hv hv0 s1
      clear HD hv hv1 hv0 h1 hu h2 h s1 s2
      go_enter Try.func62, Try.ntmps62
      go_wp2
      go_ret
      exact ⟨by rw [HE.out, EW.out]; rfl, Below.refl _ _⟩
end Go.Proofs.Ytnmfmdilhepmjaa
