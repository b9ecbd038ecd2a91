/-
  The reference of layer 1: surdref01.Trim, Cmp, Bits, Zeros, Bit. math/bits.TrailingZeros64 over its table; limb.Zeros, Bit; surdref01.Bit. Digits in a base, the lowest first; walks: div.Digits; nat.Bit, div.PowMod. Walks: nat.Bit, div.PowMod.
-/
import Derived.Test.YtamfhmmcnlollaaGreatSumX
import Derived.Test.YtamfhmmcnlollaaGreatNatB
import Derived.Lib.TrailingZeros
import Derived.Lib.LaidTab
import Derived.Test.YtamfhmmcnlollaaGreatGcd
namespace Go.Proofs.YtamfhmmcnlollaaGreat
open Go.RowKit
set_option linter.unusedVariables false
theorem nb_mod_one {x i : Nat} (h : x / 2 ^ i % 2 = 1) : nb (x % 2 ^ (i + 1)) = i + 1 := by
  have e : x % 2 ^ (i + 1) = x % 2 ^ i + 2 ^ i * (x / 2 ^ i % 2) := by rw [Nat.pow_succ, Nat.mod_mul]
  have := Nat.mod_lt x (two_pos i)
  rw [e, h]
  exact nb_uniq (by omega) (by rw [Nat.pow_succ]; omega)
theorem mod_zerob {x i : Nat} (h : x / 2 ^ i % 2 = 0) : x % 2 ^ (i + 1) = x % 2 ^ i := by
  rw [Nat.pow_succ, Nat.mod_mul, h]; simp
set_option maxHeartbeats 1000000 in
theorem rbits1_any {A : Option Addr} {n c : Nat} {xs : List Nat} {w : World} (h : Rd .u64 w A n c xs) (hx : All W xs) (hn : n ≤ 4294967296) :
    Calls Tryz.prog 134 #[.slice A n c] w (Keeps (.int .i64 ((nb (val W xs) : Nat) : Int)) w) := by
  have H := Lib.hid h
  have HX := Lib.hid hx
  obtain ⟨X, hX⟩ : ∃ X, X = val W xs := ⟨_, rfl⟩
  have HXV := Lib.hid hX
  rw [← hX]
  clear h hx hX
  go_enter Tryz.func134, Tryz.ntmps134
  go_wp2_with fail
  refine (digits1_num H.out HX.out (by omega)).mono ?_
  rintro e w1 ⟨A_d, n_d, c_d, xs_d, rfl, o_d, a_d, v_d, hb1, l_d⟩
  have V_d := Lib.hid v_d
  clear v_d
  rw [← HXV.out] at V_d
  have HLT : Hid (X < 2 ^ (16 * n_d)) := by
    show _ < _
    rw [← V_d.out, ← D_two, ← o_d.len]
    exact val_lt a_d
  have HD := Lib.hid (o_d.dig a_d V_d.out (Nat.le_refl _))
  have HB := Lib.hid hb1
  clear o_d a_d V_d hb1
  go_wp2
  go_loop [4, 5] (fun mv iv => ∃ i m : Nat, Hid (m = nb (X % 2 ^ i)) ∧ m ≤ i ∧ i ≤ 16 * n_d ∧ mv = .int .i64 m ∧ iv = .int .i64 i) (fun _ iv => 16 * n_d - (intOf iv).toNat)
  case atStart => exact ⟨0, 0, by show _ = _; simp [nb, Nat.mod_one], Nat.le_refl _, by omega, rfl, rfl⟩
  case round =>
    obtain ⟨i, m, hI, hm, hi, rfl, rfl⟩ := hrel
    by_cases hlt : i < 16 * n_d
    · have C := Lib.hid (bit1_any (w := w1) (i := i) HD.out rfl (by omega) (by omega))
      have hbt : X / 2 ^ i % 2 = 0 ∨ X / 2 ^ i % 2 = 1 := by omega
      rcases hbt with hbt | hbt
      · rw [hbt] at C
        have HN : Hid (m = nb (X % 2 ^ (i + 1))) := by show _ = _; rw [mod_zerob hbt]; exact hI.out
        clear hbt hI
        go_wp2_with fail
        refine C.out.mono ?_
        rintro e w' ⟨rfl, rfl⟩
        go_wp2
        go_round
        case rel => exact ⟨i + 1, m, HN.out, by omega, by omega, rfl, by go_num⟩
        case measure => simp [intOf]; omega
      · rw [hbt] at C
        have HN : Hid (i + 1 = nb (X % 2 ^ (i + 1))) := (nb_mod_one hbt).symm
        clear hbt hI
        go_wp2_with fail
        refine C.out.mono ?_
        rintro e w' ⟨rfl, rfl⟩
        go_wp2
        go_round
        case rel => exact ⟨i + 1, i + 1, HN.out, by omega, by omega, by go_num, by go_num⟩
        case measure => simp [intOf]; omega
    · obtain rfl : i = 16 * n_d := by omega
      go_wp2
      go_ret
      have e := hI.out
      rw [Nat.mod_eq_of_lt HLT.out] at e
      rw [← e]
      exact ⟨rfl, HB.out⟩

end Go.Proofs.YtamfhmmcnlollaaGreat
namespace Go.Proofs.YtamfhmmcnlollaaGreat
open Go.RowKit
set_option linter.unusedVariables false
end Go.Proofs.YtamfhmmcnlollaaGreat
namespace Go.Proofs.YtamfhmmcnlollaaGreat
open Go.RowKit
set_option linter.unusedVariables false
/-- an own slice apart from the block that has turned -/
theorem Own.apart {k : IntKind} {t : TypeId} {B n c n1 c1 : Nat} {w w' : World} {A A1 : Option Addr} {xs : List Nat} (h : Own k t B w A n c xs) (hlt : ∀ g, (Value.slice A1 n1 c1).ownBlock = some g → g < B) (hg : w.grownBy w' (Value.slice A1 n1 c1).ownBlock) : Own k t B w' A n c xs := by
  refine World.ownsRow.kept h hg ?_
  rcases A with _ | a
  · exact .inl rfl
  · right
    intro e
    rcases A1 with _ | a1
    · cases e
    · have h1 := hlt _ rfl
      have h2 := World.ownsRow.lt h _ rfl
      simp only [Value.ownBlock] at e
      injection e with e
      omega
end Go.Proofs.YtamfhmmcnlollaaGreat
namespace Go.Proofs.YtamfhmmcnlollaaGreat
open Go.RowKit
set_option linter.unusedVariables false
end Go.Proofs.YtamfhmmcnlollaaGreat
