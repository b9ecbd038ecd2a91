/-
  Walks: gcd.All; surdtop.bezout.
-/
import Derived.Test.YtamfhmmcnlollaaGreatGcd
import Derived.Test.YtamfhmmcnlollaaGreatPowX
import Derived.Test.YtamfhmmcnlollaaGreatTopA
namespace Go.Proofs.YtamfhmmcnlollaaGreat
open Go.RowKit
set_option linter.unusedVariables false
/-- the common divisor of all -/
def gall (xs : List Nat) : Nat := xs.foldl Nat.gcd 0
theorem gall_take {xs : List Nat} {k : Nat} (h : k < xs.length) : gall (xs.take (k + 1)) = Nat.gcd (gall (xs.take k)) (nth xs k) := by
  rw [List.take_succ_eq_append_getElem h, gall, List.foldl_append, nth_lt h]; rfl
set_option maxHeartbeats 1000000 in
theorem all_any {A : Option Addr} {n c : Nat} {xs ls : List Nat} {w : World} (h : Nums w A n c xs ls) (hn : n ≤ 1048576) (hl : lsum ls ≤ 268435456) : Calls Tryz.prog 56 #[.slice A n c] w (GN w (gall xs) (lsum ls)) := by
  have H := Lib.hid h
  clear h
  go_enter Tryz.func56, Tryz.ntmps56
  go_wp2
  go_loopw [3, 8] (fun sv i wr => ∃ (k : Nat) (B : Option Addr) (q e : Nat), Hid (Own .u64 41 w.heap.size wr B q e (dg W (gall (xs.take k))) ∧ Below w.heap.size w wr) ∧ k ≤ n ∧ q ≤ lsum (ls.take k) ∧ sv = .slice B q e ∧ i = .int .i64 k) (fun _ i _ => n - (intOf i).toNat)
  case atStart => exact ⟨0, none, 0, 0, ⟨by simpa [gall] using Own.nildg, Below.refl _ _⟩, Nat.zero_le _, Nat.zero_le _, rfl, rfl⟩
  case round =>
    obtain ⟨k, B, q, e, hI, hk, hq, rfl, rfl⟩ := hrel
    by_cases hlt : k < n
    · obtain ⟨b, off, v, ea, hb, hca, hv⟩ := (H.out.below hI.out.2).at hlt
      subst ea
      have HV := Lib.hid hv
      have HT := Lib.hid (gall_take (xs := xs) (k := k) (by rw [H.out.1.1]; exact hlt))
      have hl2 : lsum (ls.take (k + 1)) = lsum (ls.take k) + nth ls k := lsum_take_succ (by rw [H.out.1.2.1]; exact hlt)
      have HL2 := Lib.hid hl2
      have hl3 := lsum_take_le ls (k + 1)
      have b1 : q + nth ls k ≤ 268435456 := by omega
      have b2 : q + nth ls k ≤ lsum (ls.take (k + 1)) := by omega
      have HB2 := Lib.hid b2
      obtain ⟨a1, a2, a3, _, rfl, _⟩ := id hv
      clear hv hl2 hl3 b2
      go_wp2_with fail
      refine (gcd_any (hI.out.1.num (Nat.le_refl _)) HV.out (by omega) (by omega)).mono ?_
      rintro e w3 ⟨A3, n3, c3, rfl, ho3, hb3, hl3⟩
      go_wp2
      go_roundw
      case rel =>
        refine ⟨k + 1, A3, _, c3, ⟨?_, bt hI.out.2 hb3⟩, by omega, by have := HB2.out; omega, rfl, by go_num⟩
        rw [HT.out]
        exact ho3.mono hI.out.2.size
      case measure => simp [intOf]; omega
    · obtain rfl : k = n := by omega
      go_wp2
      go_ret
      have ho := hI.out.1
      rw [List.take_of_length_le (by rw [H.out.1.1]; exact Nat.le_refl _)] at ho
      rw [List.take_of_length_le (by rw [H.out.1.2.1]; exact Nat.le_refl _)] at hq
      exact ⟨_, _, _, rfl, ho, hI.out.2, hq⟩

end Go.Proofs.YtamfhmmcnlollaaGreat
