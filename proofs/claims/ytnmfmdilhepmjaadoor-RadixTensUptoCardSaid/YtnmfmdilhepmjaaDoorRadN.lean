/-
  RadixTens.
-/
import Derived.Test.YtnmfmdilhepmjaaDoorRad6X
namespace Go.Proofs.YtnmfmdilhepmjaaDoor
open Go.RowKit
set_option linter.unusedVariables false

set_option maxHeartbeats 4000000 in
set_option maxRecDepth 100000 in
theorem radixTens_any {v : Value} {x L : Nat} {k : Int} {w : World} (h : Num w v x L) (hs : SG w) (hL1 : 1 ≤ L) (hL : L ≤ 1048576) :
    Calls Tryd.prog 8 #[v, .int .i64 k] w (Keeps (.bool true) w) := by
  have H := Lib.hid h
  have HA := Lib.hid (awake6_any hs)
  have HS := Lib.hid hs
  obtain ⟨_, _, _, _, rfl, _⟩ := id h
  clear h hs
  by_cases g1 : k < 0
  · have d1 : decide (400 < k) = false := by simp; omega
    go_enter Tryd.func8, Tryd.ntmps8
    go_wp2_with fail
    refine (HA.out).mono ?_
    rintro e w1 ⟨rfl, hb1⟩
    go_wp2_with fail
    refine (format6_any (H.out.below hb1) hL1 (by omega)).mono ?_
    rintro e w2 ⟨rfl, hb2⟩
    go_wp2_with fail
    refine (rformat_any ((H.out.below hb1).below hb2) ((HS.out.below hb1).below hb2) (by omega)).mono ?_
    rintro e w3 ⟨rfl, hb3⟩
    go_wp2_with fail
    refine (rlength_any (((H.out.below hb1).below hb2).below hb3) (((HS.out.below hb1).below hb2).below hb3) (by omega)).mono ?_
    rintro e w4 ⟨rfl, hb4⟩
    go_wp2_with fail
    refine (ten6_neg (w := w4) g1).mono ?_
    rintro e wp ⟨rfl, hbp⟩
    go_wp2_with fail
    refine (rten_neg (w := wp) g1).mono ?_
    rintro e wq ⟨rfl, hbq⟩
    go_wp2_with fail
    refine (rplain_any).mono ?_
    rintro e w' ⟨rfl, rfl⟩
    go_wp2_with fail
    refine (same5_any Rd.nil Rd.nil rfl (by omega)).mono ?_
    rintro e w6 ⟨rfl, hb6⟩
    have HB2 := Lib.hid (bt (bt (bt (bt (bt (bt hb1 hb2) hb3) hb4) hbp) hbq) hb6)
    go_wp2
    go_ret
    exact ⟨by simp, HB2.out⟩
  · by_cases g2 : 10000 < k
    · have d1 : decide (400 < k) = true := by simp; omega
      have d2 : decide (k ≤ 10000) = false := by simp; omega
      go_enter Tryd.func8, Tryd.ntmps8
      go_wp2_with fail
      refine (HA.out).mono ?_
      rintro e w1 ⟨rfl, hb1⟩
      go_wp2_with fail
      refine (format6_any (H.out.below hb1) hL1 (by omega)).mono ?_
      rintro e w2 ⟨rfl, hb2⟩
      go_wp2_with fail
      refine (rformat_any ((H.out.below hb1).below hb2) ((HS.out.below hb1).below hb2) (by omega)).mono ?_
      rintro e w3 ⟨rfl, hb3⟩
      go_wp2_with fail
      refine (rlength_any (((H.out.below hb1).below hb2).below hb3) (((HS.out.below hb1).below hb2).below hb3) (by omega)).mono ?_
      rintro e w4 ⟨rfl, hb4⟩
      go_wp2_with fail
      refine (ten6_big (w := w4) g2).mono ?_
      rintro e wp ⟨rfl, hbp⟩
      go_wp2_with fail
      refine (rten_big (w := wp) g2).mono ?_
      rintro e wq ⟨rfl, hbq⟩
      go_wp2_with fail
      refine (rplain_any).mono ?_
      rintro e w' ⟨rfl, rfl⟩
      go_wp2_with fail
      refine (same5_any Rd.nil Rd.nil rfl (by omega)).mono ?_
      rintro e w6 ⟨rfl, hb6⟩
      have HB2 := Lib.hid (bt (bt (bt (bt (bt (bt hb1 hb2) hb3) hb4) hbp) hbq) hb6)
      go_wp2
      go_ret
      exact ⟨by simp, HB2.out⟩
    · by_cases g3 : 400 < k
      · have d1 : decide (400 < k) = true := by simp; omega
        have d2 : decide (k ≤ 10000) = true := by simp; omega
        go_enter Tryd.func8, Tryd.ntmps8
        go_wp2_with fail
        refine (HA.out).mono ?_
        rintro e w1 ⟨rfl, hb1⟩
        go_wp2_with fail
        refine (format6_any (H.out.below hb1) hL1 (by omega)).mono ?_
        rintro e w2 ⟨rfl, hb2⟩
        go_wp2_with fail
        refine (rformat_any ((H.out.below hb1).below hb2) ((HS.out.below hb1).below hb2) (by omega)).mono ?_
        rintro e w3 ⟨rfl, hb3⟩
        go_wp2_with fail
        refine (rlength_any (((H.out.below hb1).below hb2).below hb3) (((HS.out.below hb1).below hb2).below hb3) (by omega)).mono ?_
        rintro e w4 ⟨rfl, hb4⟩
        go_wp2_with fail
        refine (ten6_ok (N := 400) rfl (by omega)).mono ?_
        rintro e w5 ⟨A_t, n_t, c_t, rfl, o_t, hb5, l_t⟩
        go_wp2_with fail
        refine (rten_ok (N := 400) rfl (by omega)).mono ?_
        rintro e w6 ⟨A_p, n_p, c_p, rfl, o_p, hb6, l_p⟩
        go_wp2_with fail
        refine (rplain_any).mono ?_
        rintro e w' ⟨rfl, rfl⟩
        go_wp2_with fail
        refine (same5_any o_p.rd (o_t.rd.below hb6) rfl (by omega)).mono ?_
        rintro e w8 ⟨rfl, hb8⟩
        have HB2 := Lib.hid (bt (bt (bt (bt (bt (bt hb1 hb2) hb3) hb4) hb5) hb6) hb8)
        go_wp2
        go_ret
        exact ⟨by simp, HB2.out⟩
      · have d1 : decide (400 < k) = false := by simp; omega
        obtain ⟨K, rfl⟩ : ∃ K : Nat, k = (K : Int) := ⟨k.toNat, by omega⟩
        have hK : K ≤ 400 := by omega
        go_enter Tryd.func8, Tryd.ntmps8
        go_wp2_with fail
        refine (HA.out).mono ?_
        rintro e w1 ⟨rfl, hb1⟩
        go_wp2_with fail
        refine (format6_any (H.out.below hb1) hL1 (by omega)).mono ?_
        rintro e w2 ⟨rfl, hb2⟩
        go_wp2_with fail
        refine (rformat_any ((H.out.below hb1).below hb2) ((HS.out.below hb1).below hb2) (by omega)).mono ?_
        rintro e w3 ⟨rfl, hb3⟩
        go_wp2_with fail
        refine (rlength_any (((H.out.below hb1).below hb2).below hb3) (((HS.out.below hb1).below hb2).below hb3) (by omega)).mono ?_
        rintro e w4 ⟨rfl, hb4⟩
        go_wp2_with fail
        refine (ten6_ok (N := K) rfl hK).mono ?_
        rintro e w5 ⟨A_t, n_t, c_t, rfl, o_t, hb5, l_t⟩
        go_wp2_with fail
        refine (rten_ok (N := K) rfl hK).mono ?_
        rintro e w6 ⟨A_p, n_p, c_p, rfl, o_p, hb6, l_p⟩
        go_wp2_with fail
        refine (rplain_any).mono ?_
        rintro e w' ⟨rfl, rfl⟩
        go_wp2_with fail
        refine (same5_any o_p.rd (o_t.rd.below hb6) rfl (by omega)).mono ?_
        rintro e w8 ⟨rfl, hb8⟩
        have HB2 := Lib.hid (bt (bt (bt (bt (bt (bt hb1 hb2) hb3) hb4) hb5) hb6) hb8)
        go_wp2
        go_ret
        exact ⟨by simp, HB2.out⟩
end Go.Proofs.YtnmfmdilhepmjaaDoor
