/-
  RadixHorner.
-/
import Derived.Test.YtnmfmdilhepmjaaDoorRadD
namespace Go.Proofs.YtnmfmdilhepmjaaDoor
open Go.RowKit
set_option linter.unusedVariables false

theorem fromBad {b k : Int} {w : World} (h : (b < 2 ∨ 36 < b) ∨ k < 0 ∨ b ≤ k) :
    Calls Tryd.prog 34 #[.slice (some ⟨w.heap.size, 0, none⟩) 1 1, .int .i64 b] (w.alloc (.cells #[.int .i64 k] 3)) (Keeps (.tuple #[.slice none 0 0, .int .i64 3]) (w.alloc (.cells #[.int .i64 k] 3))) := by
  by_cases hb : b < 2 ∨ 36 < b
  · exact rfromDigits_bad hb
  · obtain ⟨bn, rfl⟩ : ∃ bn : Nat, b = (bn : Int) := ⟨b.toNat, by omega⟩
    have hz : Rdz (w.alloc (.cells #[.int .i64 k] 3)) (some ⟨w.heap.size, 0, none⟩) 1 1 [k] := ⟨⟨rfl, Nat.le_refl _⟩, fun _ => ⟨_, _, rfl, by simp, fun i hi => by
      obtain rfl : i = 0 := by omega
      exact (At.box (i := 0) (t := 3) w #[.int .i64 k] rfl).1⟩⟩
    refine (rfromDigits_any hz rfl (by omega) (by omega) (by omega)).mono fun e w' hp => ?_
    rcases hp with ⟨h1, _⟩ | ⟨_, h2⟩
    · have := h1 0 (by simp)
      simp [zth] at this
      omega
    · exact h2
set_option maxHeartbeats 4000000 in
set_option maxRecDepth 100000 in
theorem radixHorner_any {v : Value} {x L : Nat} {b k : Int} {w : World} (h : Num w v x L) (hs : SG w) (hL : L ≤ 1048576) (lb : -9223372036854775808 ≤ b) (ub : b ≤ 9223372036854775807) (lk : -9223372036854775808 ≤ k) (uk : k ≤ 9223372036854775807) :
    Calls Tryd.prog 7 #[v, .int .i64 b, .int .i64 k] w (Keeps (.bool true) w) := by
  have H := Lib.hid h
  have HA := Lib.hid (awake6_any hs)
  have HS := Lib.hid hs
  have HE := Lib.hid elI
  obtain ⟨_, _, _, _, rfl, _⟩ := id h
  clear h hs
  go_enter Tryd.func7, Tryd.ntmps7
  go_wp2_with fail
  refine (HA.out).mono ?_
  rintro e w1 ⟨rfl, hb1⟩
  have HB1 := Lib.hid hb1
  by_cases g1 : b < 2
  · have d1 : decide (b < 2) = true := by simp; omega
    have HB := Lib.hid (fromBad (w := w1) (b := b) (k := k) (.inl (.inl g1)))
    go_wp2_with fail
    refine HB.out.mono ?_
    rintro e w2 ⟨rfl, hb2⟩
    have HB2 : Hid (Below w.heap.size w w2) := bt HB1.out (bt (belowA _ _) hb2)
    clear hb2
    go_wp2_with fail
    refine (rplain_any).mono ?_
    rintro e w' ⟨rfl, rfl⟩
    go_wp2
    go_ret
    exact ⟨by simp, HB2.out⟩
  · have d1 : decide (b < 2) = false := by simp; omega
    by_cases g2 : 36 < b
    · have d2 : decide (36 < b) = true := by simp; omega
      have HB := Lib.hid (fromBad (w := w1) (b := b) (k := k) (.inl (.inr g2)))
      go_wp2_with fail
      refine HB.out.mono ?_
      rintro e w2 ⟨rfl, hb2⟩
      have HB2 : Hid (Below w.heap.size w w2) := bt HB1.out (bt (belowA _ _) hb2)
      clear hb2
      go_wp2_with fail
      refine (rplain_any).mono ?_
      rintro e w' ⟨rfl, rfl⟩
      go_wp2
      go_ret
      exact ⟨by simp, HB2.out⟩
    · have d2 : decide (36 < b) = false := by simp; omega
      by_cases g3 : k < 0
      · have d3 : decide (k < 0) = true := by simp; omega
        have HB := Lib.hid (fromBad (w := w1) (b := b) (k := k) (.inr (.inl g3)))
        go_wp2_with fail
        refine HB.out.mono ?_
        rintro e w2 ⟨rfl, hb2⟩
        have HB2 : Hid (Below w.heap.size w w2) := bt HB1.out (bt (belowA _ _) hb2)
        clear hb2
        go_wp2_with fail
        refine (rplain_any).mono ?_
        rintro e w' ⟨rfl, rfl⟩
        go_wp2
        go_ret
        exact ⟨by simp, HB2.out⟩
      · have d3 : decide (k < 0) = false := by simp; omega
        by_cases g4 : b ≤ k
        · have d4 : decide (b ≤ k) = true := by simp; omega
          have HB := Lib.hid (fromBad (w := w1) (b := b) (k := k) (.inr (.inr g4)))
          go_wp2_with fail
          refine HB.out.mono ?_
          rintro e w2 ⟨rfl, hb2⟩
          have HB2 : Hid (Below w.heap.size w w2) := bt HB1.out (bt (belowA _ _) hb2)
          clear hb2
          go_wp2_with fail
          refine (rplain_any).mono ?_
          rintro e w' ⟨rfl, rfl⟩
          go_wp2
          go_ret
          exact ⟨by simp, HB2.out⟩
        · have d4 : decide (b ≤ k) = false := by simp; omega
          obtain ⟨bn, rfl⟩ : ∃ bn : Nat, b = (bn : Int) := ⟨b.toNat, by omega⟩
          obtain ⟨kn, rfl⟩ : ∃ kn : Nat, k = (kn : Int) := ⟨k.toNat, by omega⟩
          have B2 : 2 ≤ bn := by omega
          have B36 : bn ≤ 36 := by omega
          have K2 : kn < bn := by omega
          have HAD := Lib.hid (dg_all (b := bn) (by omega) x)
          have HNV : Hid (val bn (toN ((kn :: dg bn x).map fun (x : Nat) => (x : Int))) = x * bn + kn) := by
            show _ = _
            rw [toN_nats, val, dg_val (by omega), Nat.mul_comm]
            omega
          have HTOP : Hid (0 < (dg bn x).length → nth (dg bn x) ((dg bn x).length - 1) ≠ 0) := norm_top (dg_norm x)
          have HLN := Lib.hid (dg_len64 (b := bn) (by omega) H.out.lt)
          clear g1 g2 g3 g4 lb ub lk uk
          go_wp2_with fail
          refine (rdigits_any (H.out.below hb1) rfl B2 B36 (by omega)).mono ?_
          rintro e w6 ⟨A_d, n_d, c_d, rfl, o_d, hb6⟩
          have HLD := Lib.hid o_d.len
          have hln : n_d ≤ 67108864 := by have := HLD.out; have := HLN.out; omega
          have HR := Lib.hid o_d.rd
          go_wp2_with (at_builtin; go_loud (refine wpList_app rfl (.tmp 49) (.tmp 50) rfl HE.out (t := 3) (n := 1) (k := .i64) (B := w6.heap.size) (xs := [kn]) rfl rfl (Own.lit (k := .i64) (t := 3) _ [kn] (by simp [maxLen]) (Nat.le_refl _)) (HR.out.alloc _) (by omega) (by simp) ?_); intro B1 e1 ws hoq hbq _ _)
          have C5 := Lib.hid (rfromDigits_any (b := bn) hoq.rd.ints rfl B2 B36 (by omega))
          go_wp2_with fail
          refine C5.out.mono ?_
          rintro e w5 (⟨_, A_f, n_f, c_f, rfl, o_f, hbf, l_f⟩ | ⟨hno, _⟩)
          rotate_left
          · exact absurd (okDigs_nats (All.cons K2 HAD.out)) hno
          rw [show [kn] ++ dg bn x = kn :: dg bn x from rfl, HNV.out] at o_f
          go_wp2_with fail
          refine (times_any (y := bn) ((((H.out.below hb1).below hb6).below ((belowA _ _).trans hbq)).below hbf) (by rfl) (by rw [W_eq]; omega) (by omega)).mono ?_
          rintro e w7 ⟨A_t, n_t, c_t, rfl, o_t, hb7, l_t⟩
          go_wp2_with fail
          refine (nof_any (x := kn) (by rfl) (by rw [W_eq]; omega)).mono ?_
          rintro e w8 ⟨A_o, n_o, c_o, rfl, o_o, hb8, l_o⟩
          go_wp2_with fail
          refine (nadd_any ((o_t.num l_t).below hb8) (o_o.num l_o) (by omega) (by omega)).mono ?_
          rintro e w9 ⟨A_u, n_u, c_u, rfl, o_u, hb9, l_u⟩
          go_wp2_with fail
          refine (same5_any (((o_f.rd.below hb7).below hb8).below hb9) o_u.rd rfl (by omega)).mono ?_
          rintro e w10 ⟨rfl, hb10⟩
          have HR2 := Lib.hid ((((((o_d.rd.below ((belowA _ _).trans hbq)).below hbf).below hb7).below hb8).below hb9).below hb10)
          have HB2 := Lib.hid (bt (bt (bt (bt (bt (bt (bt hb1 hb6) ((belowA _ _).trans hbq)) hbf) hb7) hb8) hb9) hb10)
          go_wp2
          go_loop [73] (fun i => ∃ j : Nat, j ≤ n_d ∧ i = .int .i64 (j : Int)) (fun i => n_d - (intOf i).toNat)
          case atStart => exact ⟨0, Nat.zero_le _, rfl⟩
          case round =>
            obtain ⟨j, hj, rfl⟩ := hrel
            by_cases hlt : j < n_d
            · obtain ⟨bb, off, ea, hbb, hca⟩ := HR2.out.at hlt
              subst ea
              have hd := HAD.out.nth (by omega) j
              have q1 : decide (((nth (dg bn x) j : Nat) : Int) < 0) = false := by simp
              have q2 : decide ((bn : Int) ≤ ((nth (dg bn x) j : Nat) : Int)) = false := by simp; omega
              have i1 : (0 : Int) ≤ (j : Int) := by omega
              have i2 : (j : Int) < (n_d : Int) := by omega
              have q3 : ¬ bn ≤ nth (dg bn x) j := by omega
              clear hd
              generalize nth (dg bn x) j = dd at *
              go_wp2
              go_round
              case rel => exact ⟨j + 1, by omega, by go_num⟩
              case measure => simp [intOf]; omega
            · obtain rfl : j = n_d := by omega
              by_cases h0 : j = 0
              · subst h0
                go_wp2
                go_ret
                exact ⟨by simp, HB2.out⟩
              · obtain ⟨M, rfl⟩ : ∃ M, j = M + 1 := ⟨j - 1, by omega⟩
                obtain ⟨bb, off, ea, hbb, hca⟩ := HR2.out.at (i := M) (by omega)
                subst ea
                have ht := HTOP.out (by rw [HLD.out]; omega)
                rw [HLD.out, Nat.add_sub_cancel] at ht
                have q1 : (((nth (dg bn x) M : Nat) : Int) == 0) = false := by rw [beq_eq_false_iff_ne]; omega
                have q2 : (((M + 1 : Nat) : Int) == 0) = false := by rw [beq_eq_false_iff_ne]; omega
                have q3 : (((M : Nat) : Int) + 1 == 0) = false := by rw [beq_eq_false_iff_ne]; omega
                generalize nth (dg bn x) M = dd at *
                go_wp2
                go_ret
                exact ⟨by simp; exact ht, HB2.out⟩
end Go.Proofs.YtnmfmdilhepmjaaDoor
