/-
  MulRows.
-/
import Derived.Test.YtgiecdokjmcogaaRowC
namespace Go.Proofs.Ytgiecdokjmcogaa
open Go.RowKit
set_option linter.unusedVariables false

theorem fct5 : dg W (fct 5) = [120] := by
  have := norm_dg (b := W) (xs := [120]) W_gt (by simp [All, W_eq]) (by simp [Norm, strip])
  rw [this]
  simp [val, fct]
set_option maxHeartbeats 2000000 in
theorem mulRows_n1 {z k : Int} {w : World} (hz : z < 0) (hk : k < 0) : Calls Try.prog 10 #[.int .i64 z, .int .i64 k] w (Keeps (.bool true) w) := by
  skip
  have E120 := Lib.hid fct5
  go_enter Try.func10, Try.ntmps10
  go_wp2_with fail
  refine (fact_any (N := 5) (by rfl) (by omega)).mono ?_
  rintro e w1 ⟨A_x5, n_x5, c_x5, rfl, o_x5, hb1, l_x5⟩
  go_wp2_with fail
  refine (same3_yes (ys := [120]) (o_x5.rd.below ((Below.refl _ _).alloc (Nat.le_refl _) _)) (Rd.lit1 _ 120) E120.out (by omega)).mono ?_
  rintro e ws ⟨rfl, hbs⟩
  go_wp2_with fail
  refine (fact3_neg hz).mono ?_
  rintro e w2 ⟨rfl, hb2⟩
  go_wp2_with fail
  refine (row3_neg hz).mono ?_
  rintro e w3 ⟨rfl, hb3⟩
  go_wp2_with fail
  refine (fact_neg hz).mono ?_
  rintro e w4 ⟨rfl, hb4⟩
  go_wp2_with fail
  refine (plain_yes).mono ?_
  rintro e w5 ⟨rfl, hb5⟩
  go_wp2_with fail
  refine (same3_yes Rd.nil Rd.nil rfl (by omega)).mono ?_
  rintro e w6 ⟨rfl, hb6⟩
  go_wp2_with fail
  refine (row_neg hz).mono ?_
  rintro e w7 ⟨rfl, hb7⟩
  go_wp2_with fail
  refine (plain_yes).mono ?_
  rintro e w8 ⟨rfl, hb8⟩
  go_wp2_with fail
  go_loop [81] (fun i => i = .int .i64 0) (fun _ => 0)
  case atStart => rfl
  case round =>
    obtain rfl := hrel
    go_wp2_with fail
    refine (binom_neg hz).mono ?_
    rintro e w9 ⟨rfl, hb9⟩
    go_wp2_with fail
    refine (plain_yes).mono ?_
    rintro e w10 ⟨rfl, hb10⟩
    go_wp2_with fail
    refine (same3_yes Rd.nil Rd.nil rfl (by omega)).mono ?_
    rintro e w11 ⟨rfl, hb11⟩
    go_wp2
    go_ret
    exact ⟨rfl, (bt (bt (bt (bt (bt (bt (bt (bt (bt (bt (bt (bt hb1 ((Below.refl _ _).alloc (Nat.le_refl _) _)) hbs) hb2) hb3) hb4) hb5) hb6) hb7) hb8) hb9) hb10) hb11)⟩
set_option maxHeartbeats 2000000 in
theorem mulRows_n2 {z k : Int} {w : World} (hz : z < 0) (hk : 0 ≤ k) : Calls Try.prog 10 #[.int .i64 z, .int .i64 k] w (Keeps (.bool true) w) := by
  have hk2 : ¬ k < 0 := by omega
  have E120 := Lib.hid fct5
  go_enter Try.func10, Try.ntmps10
  go_wp2_with fail
  refine (fact_any (N := 5) (by rfl) (by omega)).mono ?_
  rintro e w1 ⟨A_x5, n_x5, c_x5, rfl, o_x5, hb1, l_x5⟩
  go_wp2_with fail
  refine (same3_yes (ys := [120]) (o_x5.rd.below ((Below.refl _ _).alloc (Nat.le_refl _) _)) (Rd.lit1 _ 120) E120.out (by omega)).mono ?_
  rintro e ws ⟨rfl, hbs⟩
  go_wp2_with fail
  refine (fact3_neg hz).mono ?_
  rintro e w2 ⟨rfl, hb2⟩
  go_wp2_with fail
  refine (row3_neg hz).mono ?_
  rintro e w3 ⟨rfl, hb3⟩
  go_wp2_with fail
  refine (fact_neg hz).mono ?_
  rintro e w4 ⟨rfl, hb4⟩
  go_wp2_with fail
  refine (plain_yes).mono ?_
  rintro e w5 ⟨rfl, hb5⟩
  go_wp2_with fail
  refine (same3_yes Rd.nil Rd.nil rfl (by omega)).mono ?_
  rintro e w6 ⟨rfl, hb6⟩
  go_wp2_with fail
  refine (row_neg hz).mono ?_
  rintro e w7 ⟨rfl, hb7⟩
  go_wp2_with fail
  refine (plain_yes).mono ?_
  rintro e w8 ⟨rfl, hb8⟩
  go_wp2_with fail
  go_loop [81] (fun i => i = .int .i64 0) (fun _ => 0)
  case atStart => rfl
  case round =>
    obtain rfl := hrel
    go_wp2_with fail
    refine (binom_neg hz).mono ?_
    rintro e w9 ⟨rfl, hb9⟩
    go_wp2_with fail
    refine (plain_yes).mono ?_
    rintro e w10 ⟨rfl, hb10⟩
    go_wp2_with fail
    refine (same3_yes Rd.nil Rd.nil rfl (by omega)).mono ?_
    rintro e w11 ⟨rfl, hb11⟩
    go_wp2
    go_ret
    exact ⟨rfl, (bt (bt (bt (bt (bt (bt (bt (bt (bt (bt (bt (bt hb1 ((Below.refl _ _).alloc (Nat.le_refl _) _)) hbs) hb2) hb3) hb4) hb5) hb6) hb7) hb8) hb9) hb10) hb11)⟩
set_option maxHeartbeats 2000000 in
theorem mulRows_b1 {z k : Int} {w : World} (hz : 1000 < z) (hk : k < 0) : Calls Try.prog 10 #[.int .i64 z, .int .i64 k] w (Keeps (.bool true) w) := by
  skip
  have E120 := Lib.hid fct5
  go_enter Try.func10, Try.ntmps10
  go_wp2_with fail
  refine (fact_any (N := 5) (by rfl) (by omega)).mono ?_
  rintro e w1 ⟨A_x5, n_x5, c_x5, rfl, o_x5, hb1, l_x5⟩
  go_wp2_with fail
  refine (same3_yes (ys := [120]) (o_x5.rd.below ((Below.refl _ _).alloc (Nat.le_refl _) _)) (Rd.lit1 _ 120) E120.out (by omega)).mono ?_
  rintro e ws ⟨rfl, hbs⟩
  go_wp2_with fail
  refine (fact3_big hz).mono ?_
  rintro e w2 ⟨rfl, hb2⟩
  go_wp2_with fail
  refine (row3_big hz).mono ?_
  rintro e w3 ⟨rfl, hb3⟩
  go_wp2_with fail
  refine (fact_big hz).mono ?_
  rintro e w4 ⟨rfl, hb4⟩
  go_wp2_with fail
  refine (plain_yes).mono ?_
  rintro e w5 ⟨rfl, hb5⟩
  go_wp2_with fail
  refine (same3_yes Rd.nil Rd.nil rfl (by omega)).mono ?_
  rintro e w6 ⟨rfl, hb6⟩
  go_wp2_with fail
  refine (row_big hz).mono ?_
  rintro e w7 ⟨rfl, hb7⟩
  go_wp2_with fail
  refine (plain_yes).mono ?_
  rintro e w8 ⟨rfl, hb8⟩
  go_wp2_with fail
  go_loop [81] (fun i => i = .int .i64 0) (fun _ => 0)
  case atStart => rfl
  case round =>
    obtain rfl := hrel
    go_wp2_with fail
    refine (binom_big hz).mono ?_
    rintro e w9 ⟨rfl, hb9⟩
    go_wp2_with fail
    refine (plain_yes).mono ?_
    rintro e w10 ⟨rfl, hb10⟩
    go_wp2_with fail
    refine (same3_yes Rd.nil Rd.nil rfl (by omega)).mono ?_
    rintro e w11 ⟨rfl, hb11⟩
    go_wp2
    go_ret
    exact ⟨rfl, (bt (bt (bt (bt (bt (bt (bt (bt (bt (bt (bt (bt hb1 ((Below.refl _ _).alloc (Nat.le_refl _) _)) hbs) hb2) hb3) hb4) hb5) hb6) hb7) hb8) hb9) hb10) hb11)⟩
set_option maxHeartbeats 2000000 in
theorem mulRows_b2 {z k : Int} {w : World} (hz : 1000 < z) (hk : 0 ≤ k) : Calls Try.prog 10 #[.int .i64 z, .int .i64 k] w (Keeps (.bool true) w) := by
  have hk2 : ¬ k < 0 := by omega
  have E120 := Lib.hid fct5
  go_enter Try.func10, Try.ntmps10
  go_wp2_with fail
  refine (fact_any (N := 5) (by rfl) (by omega)).mono ?_
  rintro e w1 ⟨A_x5, n_x5, c_x5, rfl, o_x5, hb1, l_x5⟩
  go_wp2_with fail
  refine (same3_yes (ys := [120]) (o_x5.rd.below ((Below.refl _ _).alloc (Nat.le_refl _) _)) (Rd.lit1 _ 120) E120.out (by omega)).mono ?_
  rintro e ws ⟨rfl, hbs⟩
  go_wp2_with fail
  refine (fact3_big hz).mono ?_
  rintro e w2 ⟨rfl, hb2⟩
  go_wp2_with fail
  refine (row3_big hz).mono ?_
  rintro e w3 ⟨rfl, hb3⟩
  go_wp2_with fail
  refine (fact_big hz).mono ?_
  rintro e w4 ⟨rfl, hb4⟩
  go_wp2_with fail
  refine (plain_yes).mono ?_
  rintro e w5 ⟨rfl, hb5⟩
  go_wp2_with fail
  refine (same3_yes Rd.nil Rd.nil rfl (by omega)).mono ?_
  rintro e w6 ⟨rfl, hb6⟩
  go_wp2_with fail
  refine (row_big hz).mono ?_
  rintro e w7 ⟨rfl, hb7⟩
  go_wp2_with fail
  refine (plain_yes).mono ?_
  rintro e w8 ⟨rfl, hb8⟩
  go_wp2_with fail
  go_loop [81] (fun i => i = .int .i64 0) (fun _ => 0)
  case atStart => rfl
  case round =>
    obtain rfl := hrel
    go_wp2_with fail
    refine (binom_big hz).mono ?_
    rintro e w9 ⟨rfl, hb9⟩
    go_wp2_with fail
    refine (plain_yes).mono ?_
    rintro e w10 ⟨rfl, hb10⟩
    go_wp2_with fail
    refine (same3_yes Rd.nil Rd.nil rfl (by omega)).mono ?_
    rintro e w11 ⟨rfl, hb11⟩
    go_wp2
    go_ret
    exact ⟨rfl, (bt (bt (bt (bt (bt (bt (bt (bt (bt (bt (bt (bt hb1 ((Below.refl _ _).alloc (Nat.le_refl _) _)) hbs) hb2) hb3) hb4) hb5) hb6) hb7) hb8) hb9) hb10) hb11)⟩

set_option maxHeartbeats 4000000 in
set_option maxRecDepth 100000 in
theorem mulRows_in {N : Nat} {K : Nat} {w : World} (hN : N ≤ 1000) (hK : K ≤ N) : Calls Try.prog 10 #[.int .i64 (N : Int), .int .i64 (K : Int)] w (Keeps (.bool true) w) := by
  skip
  have E120 := Lib.hid fct5
  go_enter Try.func10, Try.ntmps10
  go_wp2_with fail
  refine (fact_any (N := 5) (by rfl) (by omega)).mono ?_
  rintro e w1 ⟨A_x5, n_x5, c_x5, rfl, o_x5, hb1, l_x5⟩
  go_wp2_with fail
  refine (same3_yes (ys := [120]) (o_x5.rd.below ((Below.refl _ _).alloc (Nat.le_refl _) _)) (Rd.lit1 _ 120) E120.out (by omega)).mono ?_
  rintro e ws ⟨rfl, hbs⟩
  go_wp2_with fail
  refine (fact3_any (N := N) rfl hN).mono ?_
  rintro e w2 ⟨A_f, n_f, c_f, rfl, o_f, hb2, l_f⟩
  go_wp2_with fail
  refine (row3_any (N := N) rfl hN).mono ?_
  rintro e wq ⟨A_r, c_r, rfl, o_r, hbq⟩
  obtain ⟨g_r, _, _, _, _, rfl, _⟩ := o_r.at (i := 0) (by omega)
  obtain ⟨g2, A', n', c', xs, hA2, hBg, hgl, hc, ho, hF⟩ := o_r.at (i := K) (by omega)
  injection hA2 with hA2
  injection hA2 with hA2
  subst hA2
  have k1 : (0 : Int) ≤ (K : Int) := by omega
  have k2 : (K : Int) < (N : Int) + 1 := by omega
  have HC := Lib.hid ho.rd
  have HF := Lib.hid hF.1
  clear ho hF
  go_wp2_with fail
  clear hc k2
  go_wp2_with fail
  refine (fact_any (N := N) rfl hN).mono ?_
  rintro e w3 ⟨A_f2, n_f2, c_f2, rfl, o_f2, hb3, l_f2⟩
  go_wp2_with fail
  refine (plain_yes).mono ?_
  rintro e w4 ⟨rfl, hb4⟩
  go_wp2_with fail
  refine (same3_yes (o_f2.rd.below hb4) (((o_f.rd.below hbq).below hb3).below hb4) rfl (by omega)).mono ?_
  rintro e w5 ⟨rfl, hb5⟩
  go_wp2_with fail
  refine (row_any (N := N) rfl hN).mono ?_
  rintro e wl ⟨A_l, c_l, rfl, o_l, hbl⟩
  go_wp2_with fail
  refine (plain_yes).mono ?_
  rintro e w6 ⟨rfl, hb6⟩
  have HR := Lib.hid (((((o_r.below hb3).below hb4).below hb5).below hbl).below hb6)
  have HL := Lib.hid (o_l.below hb6)
  go_wp2_with fail
  have HS := Lib.hid (Below.refl w6.heap.size w6)
  go_loopw [81] (fun i wr => ∃ j : Nat, Hid (Below w6.heap.size w6 wr) ∧ j ≤ N + 1 ∧ i = .int .i64 (j : Int)) (fun i _ => N + 1 - (intOf i).toNat)
  case atStart => exact ⟨0, HS.out, by omega, rfl⟩
  case round =>
    obtain ⟨j, hI, hj, rfl⟩ := hrel
    by_cases hlt : j ≤ N
    · obtain ⟨g1, A1, n1, c1, xs1, rfl, _, hl1, hc1, ho1, hF1, _⟩ := HL.out.at (i := j) (by omega)
      obtain ⟨g2, A2, n2, c2, xs2, hA2, _, hl2, hc2, ho2, hF2, hb2⟩ := HR.out.at (i := j) (by omega)
      injection hA2 with hA2
      injection hA2 with hA2
      subst hA2
      have HX : Hid (xs1 = xs2) := by show _ = _; rw [hF1, hF2]
      have HN2 : Hid (n1 ≤ 1001) := by show _ ≤ _; rw [← ho1.len, hF1, ← hF2]; exact hb2
      have HO := Lib.hid (And.intro (ho1.below hI.out).rd (ho2.below hI.out).rd)
      have e1 : wr.cell? ⟨g1, j, none⟩ = some (.slice A1 n1 c1) := (hI.out.cell (p := ⟨g1, j, none⟩) hl1).trans hc1
      have e2 : wr.cell? ⟨g_r, j, none⟩ = some (.slice A2 n2 c2) := (hI.out.cell (p := ⟨g_r, j, none⟩) hl2).trans hc2
      have t1 : ∀ w', Grow none wr.drew w' → w'.cell? ⟨g1, j, none⟩ = some (.slice A1 n1 c1) := fun w' h => h.cell e1 (by simp)
      have t2 : ∀ w', Grow none wr.drew w' → w'.cell? ⟨g_r, j, none⟩ = some (.slice A2 n2 c2) := fun w' h => h.cell e2 (by simp)
      clear hc1 hc2 ho1 ho2 hF1 hF2 hb2
      have i1 : (0 : Int) ≤ (j : Int) := by omega
      have i2 : (j : Int) < (N : Int) + 1 := by omega
      go_wp2_with fail
      refine wp_region_grow none [(true, 0), (true, 1), (true, 2), (true, 3), (true, 4), (true, 5), (true, 6), (true, 7), (false, 8), (true, 9)] (by kernel_rfl) (by kernel_rfl) ?_
      repeat (refine ord_pas (by rfl) (fun K hK => ?_); go_simp; refine hK _ _ (fun w' hw' => (by first | (go_simp; done) | (go_simp; intro hh; cases hh))) ?_; clear hK K)
      clear e1 e2 t1 t2
      (refine ord_call (by rfl) (fun K hK => ?_); go_simp; refine hK _ _ ?_; clear hK K)
      refine (same3_yes (w := wr.drew) HO.out.1.drew HO.out.2.drew HX.out (by have := HN2.out; omega)).mono ?_
      rintro e ws2 ⟨rfl, hbs2⟩
      refine ⟨_, rfl, Grow.of_below hbs2, ?_⟩
      (refine ord_norm (fun K hK => ?_); go_simp; refine hK _ ?_; clear hK K)
      repeat (refine ord_pas (by rfl) (fun K hK => ?_); go_simp; refine hK _ _ (fun w' hw' => (by first | (go_simp; done) | (go_simp; intro hh; cases hh))) ?_; clear hK K)
      refine ord_nil ?_
      go_wp2
      go_roundw
      case rel => exact ⟨j + 1, bt hI.out (bd hbs2), by omega, by go_num⟩
      case measure => simp [intOf]; omega
    · have hge : N + 1 ≤ j := by omega
      go_wp2_with fail
      refine (binom_ok rfl rfl hN hK).mono ?_
      rintro e w7 ⟨A_b, n_b, c_b, rfl, o_b, hb7, l_b⟩
      go_wp2_with fail
      refine (plain_yes).mono ?_
      rintro e w8 ⟨rfl, hb8⟩
      go_wp2_with fail
      refine (same3_yes (o_b.rd.below hb8) ((((((((HC.out.below hb3).below hb4).below hb5).below hbl).below hb6).below hI.out).below hb7).below hb8) HF.out.symm (by omega)).mono ?_
      rintro e w9 ⟨rfl, hb9⟩
      go_wp2
      go_ret
      exact ⟨rfl, (bt (bt (bt (bt (bt (bt (bt (bt (bt (bt (bt (bt (bt hb1 ((Below.refl _ _).alloc (Nat.le_refl _) _)) hbs) hb2) hbq) hb3) hb4) hb5) hbl) hb6) hI.out) hb7) hb8) hb9)⟩
set_option maxHeartbeats 4000000 in
set_option maxRecDepth 100000 in
theorem mulRows_lo {N : Nat} {k : Int} {w : World} (hN : N ≤ 1000) (hk : k < 0) : Calls Try.prog 10 #[.int .i64 (N : Int), .int .i64 k] w (Keeps (.bool true) w) := by
  skip
  have E120 := Lib.hid fct5
  go_enter Try.func10, Try.ntmps10
  go_wp2_with fail
  refine (fact_any (N := 5) (by rfl) (by omega)).mono ?_
  rintro e w1 ⟨A_x5, n_x5, c_x5, rfl, o_x5, hb1, l_x5⟩
  go_wp2_with fail
  refine (same3_yes (ys := [120]) (o_x5.rd.below ((Below.refl _ _).alloc (Nat.le_refl _) _)) (Rd.lit1 _ 120) E120.out (by omega)).mono ?_
  rintro e ws ⟨rfl, hbs⟩
  go_wp2_with fail
  refine (fact3_any (N := N) rfl hN).mono ?_
  rintro e w2 ⟨A_f, n_f, c_f, rfl, o_f, hb2, l_f⟩
  go_wp2_with fail
  refine (row3_any (N := N) rfl hN).mono ?_
  rintro e wq ⟨A_r, c_r, rfl, o_r, hbq⟩
  obtain ⟨g_r, _, _, _, _, rfl, _⟩ := o_r.at (i := 0) (by omega)
  skip
  go_wp2_with fail
  refine (fact_any (N := N) rfl hN).mono ?_
  rintro e w3 ⟨A_f2, n_f2, c_f2, rfl, o_f2, hb3, l_f2⟩
  go_wp2_with fail
  refine (plain_yes).mono ?_
  rintro e w4 ⟨rfl, hb4⟩
  go_wp2_with fail
  refine (same3_yes (o_f2.rd.below hb4) (((o_f.rd.below hbq).below hb3).below hb4) rfl (by omega)).mono ?_
  rintro e w5 ⟨rfl, hb5⟩
  go_wp2_with fail
  refine (row_any (N := N) rfl hN).mono ?_
  rintro e wl ⟨A_l, c_l, rfl, o_l, hbl⟩
  go_wp2_with fail
  refine (plain_yes).mono ?_
  rintro e w6 ⟨rfl, hb6⟩
  have HR := Lib.hid (((((o_r.below hb3).below hb4).below hb5).below hbl).below hb6)
  have HL := Lib.hid (o_l.below hb6)
  go_wp2_with fail
  have HS := Lib.hid (Below.refl w6.heap.size w6)
  go_loopw [81] (fun i wr => ∃ j : Nat, Hid (Below w6.heap.size w6 wr) ∧ j ≤ N + 1 ∧ i = .int .i64 (j : Int)) (fun i _ => N + 1 - (intOf i).toNat)
  case atStart => exact ⟨0, HS.out, by omega, rfl⟩
  case round =>
    obtain ⟨j, hI, hj, rfl⟩ := hrel
    by_cases hlt : j ≤ N
    · obtain ⟨g1, A1, n1, c1, xs1, rfl, _, hl1, hc1, ho1, hF1, _⟩ := HL.out.at (i := j) (by omega)
      obtain ⟨g2, A2, n2, c2, xs2, hA2, _, hl2, hc2, ho2, hF2, hb2⟩ := HR.out.at (i := j) (by omega)
      injection hA2 with hA2
      injection hA2 with hA2
      subst hA2
      have HX : Hid (xs1 = xs2) := by show _ = _; rw [hF1, hF2]
      have HN2 : Hid (n1 ≤ 1001) := by show _ ≤ _; rw [← ho1.len, hF1, ← hF2]; exact hb2
      have HO := Lib.hid (And.intro (ho1.below hI.out).rd (ho2.below hI.out).rd)
      have e1 : wr.cell? ⟨g1, j, none⟩ = some (.slice A1 n1 c1) := (hI.out.cell (p := ⟨g1, j, none⟩) hl1).trans hc1
      have e2 : wr.cell? ⟨g_r, j, none⟩ = some (.slice A2 n2 c2) := (hI.out.cell (p := ⟨g_r, j, none⟩) hl2).trans hc2
      have t1 : ∀ w', Grow none wr.drew w' → w'.cell? ⟨g1, j, none⟩ = some (.slice A1 n1 c1) := fun w' h => h.cell e1 (by simp)
      have t2 : ∀ w', Grow none wr.drew w' → w'.cell? ⟨g_r, j, none⟩ = some (.slice A2 n2 c2) := fun w' h => h.cell e2 (by simp)
      clear hc1 hc2 ho1 ho2 hF1 hF2 hb2
      have i1 : (0 : Int) ≤ (j : Int) := by omega
      have i2 : (j : Int) < (N : Int) + 1 := by omega
      go_wp2_with fail
      refine wp_region_grow none [(true, 0), (true, 1), (true, 2), (true, 3), (true, 4), (true, 5), (true, 6), (true, 7), (false, 8), (true, 9)] (by kernel_rfl) (by kernel_rfl) ?_
      repeat (refine ord_pas (by rfl) (fun K hK => ?_); go_simp; refine hK _ _ (fun w' hw' => (by first | (go_simp; done) | (go_simp; intro hh; cases hh))) ?_; clear hK K)
      clear e1 e2 t1 t2
      (refine ord_call (by rfl) (fun K hK => ?_); go_simp; refine hK _ _ ?_; clear hK K)
      refine (same3_yes (w := wr.drew) HO.out.1.drew HO.out.2.drew HX.out (by have := HN2.out; omega)).mono ?_
      rintro e ws2 ⟨rfl, hbs2⟩
      refine ⟨_, rfl, Grow.of_below hbs2, ?_⟩
      (refine ord_norm (fun K hK => ?_); go_simp; refine hK _ ?_; clear hK K)
      repeat (refine ord_pas (by rfl) (fun K hK => ?_); go_simp; refine hK _ _ (fun w' hw' => (by first | (go_simp; done) | (go_simp; intro hh; cases hh))) ?_; clear hK K)
      refine ord_nil ?_
      go_wp2
      go_roundw
      case rel => exact ⟨j + 1, bt hI.out (bd hbs2), by omega, by go_num⟩
      case measure => simp [intOf]; omega
    · have hge : N + 1 ≤ j := by omega
      go_wp2_with fail
      refine (binom_out rfl hN (.inl hk)).mono ?_
      rintro e w7 ⟨A_b, n_b, c_b, rfl, o_b, hb7, l_b⟩
      go_wp2_with fail
      refine (plain_yes).mono ?_
      rintro e w8 ⟨rfl, hb8⟩
      go_wp2_with fail
      refine (same3_yes (o_b.rd.below hb8) Rd.nil (dg_zero W_gt) (by omega)).mono ?_
      rintro e w9 ⟨rfl, hb9⟩
      go_wp2
      go_ret
      exact ⟨rfl, (bt (bt (bt (bt (bt (bt (bt (bt (bt (bt (bt (bt (bt hb1 ((Below.refl _ _).alloc (Nat.le_refl _) _)) hbs) hb2) hbq) hb3) hb4) hb5) hbl) hb6) hI.out) hb7) hb8) hb9)⟩
set_option maxHeartbeats 4000000 in
set_option maxRecDepth 100000 in
theorem mulRows_hi {N : Nat} {k : Int} {w : World} (hN : N ≤ 1000) (hk : (N : Int) < k) : Calls Try.prog 10 #[.int .i64 (N : Int), .int .i64 k] w (Keeps (.bool true) w) := by
  (have hk2 : ¬ k < 0 := by omega);(have hk3 : ¬ k < (N : Int) + 1 := by omega)
  have E120 := Lib.hid fct5
  go_enter Try.func10, Try.ntmps10
  go_wp2_with fail
  refine (fact_any (N := 5) (by rfl) (by omega)).mono ?_
  rintro e w1 ⟨A_x5, n_x5, c_x5, rfl, o_x5, hb1, l_x5⟩
  go_wp2_with fail
  refine (same3_yes (ys := [120]) (o_x5.rd.below ((Below.refl _ _).alloc (Nat.le_refl _) _)) (Rd.lit1 _ 120) E120.out (by omega)).mono ?_
  rintro e ws ⟨rfl, hbs⟩
  go_wp2_with fail
  refine (fact3_any (N := N) rfl hN).mono ?_
  rintro e w2 ⟨A_f, n_f, c_f, rfl, o_f, hb2, l_f⟩
  go_wp2_with fail
  refine (row3_any (N := N) rfl hN).mono ?_
  rintro e wq ⟨A_r, c_r, rfl, o_r, hbq⟩
  obtain ⟨g_r, _, _, _, _, rfl, _⟩ := o_r.at (i := 0) (by omega)
  skip
  go_wp2_with fail
  refine (fact_any (N := N) rfl hN).mono ?_
  rintro e w3 ⟨A_f2, n_f2, c_f2, rfl, o_f2, hb3, l_f2⟩
  go_wp2_with fail
  refine (plain_yes).mono ?_
  rintro e w4 ⟨rfl, hb4⟩
  go_wp2_with fail
  refine (same3_yes (o_f2.rd.below hb4) (((o_f.rd.below hbq).below hb3).below hb4) rfl (by omega)).mono ?_
  rintro e w5 ⟨rfl, hb5⟩
  go_wp2_with fail
  refine (row_any (N := N) rfl hN).mono ?_
  rintro e wl ⟨A_l, c_l, rfl, o_l, hbl⟩
  go_wp2_with fail
  refine (plain_yes).mono ?_
  rintro e w6 ⟨rfl, hb6⟩
  have HR := Lib.hid (((((o_r.below hb3).below hb4).below hb5).below hbl).below hb6)
  have HL := Lib.hid (o_l.below hb6)
  go_wp2_with fail
  have HS := Lib.hid (Below.refl w6.heap.size w6)
  go_loopw [81] (fun i wr => ∃ j : Nat, Hid (Below w6.heap.size w6 wr) ∧ j ≤ N + 1 ∧ i = .int .i64 (j : Int)) (fun i _ => N + 1 - (intOf i).toNat)
  case atStart => exact ⟨0, HS.out, by omega, rfl⟩
  case round =>
    obtain ⟨j, hI, hj, rfl⟩ := hrel
    by_cases hlt : j ≤ N
    · obtain ⟨g1, A1, n1, c1, xs1, rfl, _, hl1, hc1, ho1, hF1, _⟩ := HL.out.at (i := j) (by omega)
      obtain ⟨g2, A2, n2, c2, xs2, hA2, _, hl2, hc2, ho2, hF2, hb2⟩ := HR.out.at (i := j) (by omega)
      injection hA2 with hA2
      injection hA2 with hA2
      subst hA2
      have HX : Hid (xs1 = xs2) := by show _ = _; rw [hF1, hF2]
      have HN2 : Hid (n1 ≤ 1001) := by show _ ≤ _; rw [← ho1.len, hF1, ← hF2]; exact hb2
      have HO := Lib.hid (And.intro (ho1.below hI.out).rd (ho2.below hI.out).rd)
      have e1 : wr.cell? ⟨g1, j, none⟩ = some (.slice A1 n1 c1) := (hI.out.cell (p := ⟨g1, j, none⟩) hl1).trans hc1
      have e2 : wr.cell? ⟨g_r, j, none⟩ = some (.slice A2 n2 c2) := (hI.out.cell (p := ⟨g_r, j, none⟩) hl2).trans hc2
      have t1 : ∀ w', Grow none wr.drew w' → w'.cell? ⟨g1, j, none⟩ = some (.slice A1 n1 c1) := fun w' h => h.cell e1 (by simp)
      have t2 : ∀ w', Grow none wr.drew w' → w'.cell? ⟨g_r, j, none⟩ = some (.slice A2 n2 c2) := fun w' h => h.cell e2 (by simp)
      clear hc1 hc2 ho1 ho2 hF1 hF2 hb2
      have i1 : (0 : Int) ≤ (j : Int) := by omega
      have i2 : (j : Int) < (N : Int) + 1 := by omega
      go_wp2_with fail
      refine wp_region_grow none [(true, 0), (true, 1), (true, 2), (true, 3), (true, 4), (true, 5), (true, 6), (true, 7), (false, 8), (true, 9)] (by kernel_rfl) (by kernel_rfl) ?_
      repeat (refine ord_pas (by rfl) (fun K hK => ?_); go_simp; refine hK _ _ (fun w' hw' => (by first | (go_simp; done) | (go_simp; intro hh; cases hh))) ?_; clear hK K)
      clear e1 e2 t1 t2
      (refine ord_call (by rfl) (fun K hK => ?_); go_simp; refine hK _ _ ?_; clear hK K)
      refine (same3_yes (w := wr.drew) HO.out.1.drew HO.out.2.drew HX.out (by have := HN2.out; omega)).mono ?_
      rintro e ws2 ⟨rfl, hbs2⟩
      refine ⟨_, rfl, Grow.of_below hbs2, ?_⟩
      (refine ord_norm (fun K hK => ?_); go_simp; refine hK _ ?_; clear hK K)
      repeat (refine ord_pas (by rfl) (fun K hK => ?_); go_simp; refine hK _ _ (fun w' hw' => (by first | (go_simp; done) | (go_simp; intro hh; cases hh))) ?_; clear hK K)
      refine ord_nil ?_
      go_wp2
      go_roundw
      case rel => exact ⟨j + 1, bt hI.out (bd hbs2), by omega, by go_num⟩
      case measure => simp [intOf]; omega
    · have hge : N + 1 ≤ j := by omega
      go_wp2_with fail
      refine (binom_out rfl hN (.inr hk)).mono ?_
      rintro e w7 ⟨A_b, n_b, c_b, rfl, o_b, hb7, l_b⟩
      go_wp2_with fail
      refine (plain_yes).mono ?_
      rintro e w8 ⟨rfl, hb8⟩
      go_wp2_with fail
      refine (same3_yes (o_b.rd.below hb8) Rd.nil (dg_zero W_gt) (by omega)).mono ?_
      rintro e w9 ⟨rfl, hb9⟩
      go_wp2
      go_ret
      exact ⟨rfl, (bt (bt (bt (bt (bt (bt (bt (bt (bt (bt (bt (bt (bt hb1 ((Below.refl _ _).alloc (Nat.le_refl _) _)) hbs) hb2) hbq) hb3) hb4) hb5) hbl) hb6) hI.out) hb7) hb8) hb9)⟩
theorem mulRows_any {z k : Int} {w : World} : Calls Try.prog 10 #[.int .i64 z, .int .i64 k] w (Keeps (.bool true) w) := by
  by_cases h1 : z < 0
  · by_cases h2 : k < 0
    · exact mulRows_n1 h1 h2
    · exact mulRows_n2 h1 (by omega)
  by_cases h3 : 1000 < z
  · by_cases h2 : k < 0
    · exact mulRows_b1 h3 h2
    · exact mulRows_b2 h3 (by omega)
  obtain ⟨N, rfl⟩ := Int.eq_ofNat_of_zero_le (show 0 ≤ z by omega)
  by_cases h2 : k < 0
  · exact mulRows_lo (by omega) h2
  by_cases h4 : (N : Int) < k
  · exact mulRows_hi (by omega) h4
  obtain ⟨K, rfl⟩ := Int.eq_ofNat_of_zero_le (show 0 ≤ k by omega)
  exact mulRows_in (by omega) (by omega)
end Go.Proofs.Ytgiecdokjmcogaa
