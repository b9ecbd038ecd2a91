/-
  LimbShifts: Shl (by at most 70000, or out of range) and Shr of any list are the document's.
-/
import Derived.Test.YtgiecdokjmcogaaShD
namespace Go.Proofs.Ytgiecdokjmcogaa
open Go.RowKit
set_option linter.unusedVariables false

theorem shl_both {xs : List Nat} {n : Nat} (z : Int) (hx : All W xs) (hn : n ≤ 4294967296) : ∃ (zs : List Nat) (u : Int), (zs.length ≤ n + 16385) ∧
    (∀ ⦃A : Option Addr⦄ ⦃c : Nat⦄ ⦃w : World⦄, Rd .u64 w A n c xs → Calls Try.prog 25 #[.slice A n c, .int .i64 z] w (Gives2 .u64 25 w zs (.int .i64 u))) ∧
    (∀ ⦃A : Option Addr⦄ ⦃c : Nat⦄ ⦃w : World⦄, Rd .u64 w A n c xs → Calls Try.prog 27 #[.slice A n c, .int .i64 z] w (Gives2 .u64 25 w zs (.int .i64 u))) := by
  by_cases h : z < 0 ∨ 1048576 < z
  · exact ⟨[], 3, by simp, fun _ _ _ _ => lshl_bad h, fun _ _ _ _ => rshl1_bad h⟩
  · obtain ⟨s, rfl⟩ : ∃ s : Nat, z = (s : Int) := ⟨z.toNat, by omega⟩
    refine ⟨_, _, ?_, fun _ _ _ h1 => lshl_any h1 hx rfl (by omega) (by omega), fun _ _ _ h1 => rshl1_any h1 hx rfl (by omega) hn⟩
    rw [wds_length, shlLen]
    split <;> omega
theorem shr_both {xs : List Nat} {n : Nat} {z : Int} (hz : z ≤ 9223372036854775807) (hx : All W xs) (hn : n ≤ 4294967296) : ∃ (zs : List Nat) (b : Bool) (u : Int), (zs.length ≤ n) ∧
    (∀ ⦃A : Option Addr⦄ ⦃c : Nat⦄ ⦃w : World⦄, Rd .u64 w A n c xs → Calls Try.prog 29 #[.slice A n c, .int .i64 z] w (Gives3 .u64 25 w zs (.bool b) (.int .i64 u))) ∧
    (∀ ⦃A : Option Addr⦄ ⦃c : Nat⦄ ⦃w : World⦄, Rd .u64 w A n c xs → Calls Try.prog 30 #[.slice A n c, .int .i64 z] w (Gives3 .u64 25 w zs (.bool b) (.int .i64 u))) := by
  by_cases h : z < 0
  · exact ⟨[], false, 3, by simp, fun _ _ _ _ => lshr_neg h, fun _ _ _ _ => rshr1_neg h⟩
  · obtain ⟨s, rfl⟩ : ∃ s : Nat, z = (s : Int) := ⟨z.toNat, by omega⟩
    refine ⟨_, _, _, ?_, fun _ _ _ h1 => ?_, fun _ _ _ h1 => rshr1_any h1 hx rfl (by omega) hn⟩
    · rw [wds_length]; omega
    · by_cases hs : s / 64 < n
      · exact lshr_in h1 hx rfl (by omega) hs
      · exact lshr_out h1 hx rfl (by omega) (by omega) (by omega)

set_option maxHeartbeats 4000000 in
set_option maxRecDepth 100000 in
theorem limbShifts_any {x y z c n ca : Nat} {N : Int} {A : Option Addr} {V : Value} {xs : List Nat} {w : World} (h : Rd .u64 w A n ca xs) (ha : All W xs) (hn : n ≤ 1048576) (hN : N ≤ 9223372036854775807) :
    Calls Try.prog 5 #[.agg #[.int .u64 (x : Int), .int .u64 (y : Int), .int .u64 (z : Int), .int .u64 (c : Int), .slice A n ca, V, .int .i64 N]] w (Keeps (.bool true) w) := by
  obtain ⟨zs2, b2, u2, lz2, P2, Q2⟩ := shr_both (n := n) hN ha (by omega)
  have HP2 := Lib.hid P2
  have HQ2 := Lib.hid Q2
  have H := Lib.hid h
  have HA := Lib.hid ha
  clear h ha P2 Q2
  by_cases hc1 : 70000 < N
  · by_cases hc2 : N ≤ 1048576
    · obtain ⟨zs1, u1, lz1, P1, Q1⟩ := shl_both (n := n) 70000 HA.out (by omega)
      have HP1 := Lib.hid P1
      have HQ1 := Lib.hid Q1
      clear P1 Q1
      have d1 : decide (70000 < N) = true := by simpa using hc1
      have d2 : decide (N ≤ 1048576) = true := by simpa using hc2
      clear hc1 hc2
      go_enter Try.func5, Try.ntmps5
      go_wp2_with fail
      refine (fixed_any _).mono ?_
      rintro e w1 ⟨rfl, hb1⟩
      have e6 := ((At.box (i := 6) _ _ rfl).below hb1).1
      have e4 := ((At.box (i := 4) _ _ rfl).below hb1).1
      go_wp2_with fail
      refine (copiedC_any ((H.out.below ((Below.refl _ _).alloc (Nat.le_refl _) _)).below hb1) (by omega)).mono ?_
      rintro e w2 ⟨A_a1, c_a1, rfl, o_a1, hb2⟩
      go_wp2_with fail
      refine (HP1.out o_a1.rd).mono ?_
      rintro e w3 ⟨A_s, n_s, c_s, rfl, o_s, hb3⟩
      clear e4
      have e4 := ((((At.box (i := 4) _ _ rfl).below hb1).below hb2).below hb3).1
      go_wp2_with fail
      refine (HQ1.out ((((H.out.below ((Below.refl _ _).alloc (Nat.le_refl _) _)).below hb1).below hb2).below hb3)).mono ?_
      rintro e w4 ⟨A_t, n_t, c_t, rfl, o_t, hb4⟩
      clear e4
      go_wp2_with fail
      refine (same1_yes (o_s.rd.below hb4) o_t.rd rfl (by have := o_s.len; omega)).mono ?_
      rintro e w5 ⟨rfl, hb5⟩
      clear o_a1 o_s o_t
      go_wp2_with fail
      have e_f4 := ((((((At.box (i := 4) _ _ rfl).below hb1).below hb2).below hb3).below hb4).below hb5).1
      have g_f4 := At.grow ((((((At.box (i := 4) _ _ rfl).below hb1).below hb2).below hb3).below hb4).below hb5)
      have e_f6 := ((((((At.box (i := 6) _ _ rfl).below hb1).below hb2).below hb3).below hb4).below hb5).1
      have g_f6 := At.grow ((((((At.box (i := 6) _ _ rfl).below hb1).below hb2).below hb3).below hb4).below hb5)
      refine wp_region_grow none [(true, 0), (true, 1), (true, 3), (true, 4), (false, 2), (false, 5), (true, 6), (true, 7), (true, 8), (true, 9), (true, 10), (true, 11), (true, 12)] (by kernel_rfl) (by kernel_rfl) ?_
      repeat (refine ord_pas (by rfl) (fun K hK => ?_); go_simp; refine hK _ _ (fun w' hw' => (by go_simp)) ?_; clear hK K)
      (refine ord_call (by rfl) (fun K hK => ?_); go_simp; refine hK _ _ ?_; clear hK K)
      refine (copiedC_any (((((((H.out.below ((Below.refl _ _).alloc (Nat.le_refl _) _)).below hb1).below hb2).below hb3).below hb4).below hb5).below (Below.refl _ _).drew) (by omega)).mono ?_
      rintro e w6 ⟨A_a2, c_a2, rfl, o_a2, hb6⟩
      refine ⟨_, rfl, Grow.of_below hb6, ?_⟩
      (refine ord_norm (fun K hK => ?_); go_simp; refine hK _ ?_; clear hK K)
      (refine ord_call (by rfl) (fun K hK => ?_); go_simp; refine hK _ _ ?_; clear hK K)
      refine (HP2.out o_a2.rd).mono ?_
      rintro e w7 ⟨A_s2, n_s2, c_s2, rfl, o_s2, hb7⟩
      refine ⟨_, rfl, Grow.of_below hb7, ?_⟩
      (refine ord_norm (fun K hK => ?_); go_simp; refine hK _ ?_; clear hK K)
      repeat (refine ord_pas (by rfl) (fun K hK => ?_); go_simp; refine hK _ _ (fun w' hw' => (by go_simp)) ?_; clear hK K)
      refine ord_nil ?_
      clear g_f4 e_f4 g_f6 e_f6
      have e1 := (((((((((At.box (i := 4) _ _ rfl).below hb1).below hb2).below hb3).below hb4).below hb5).below (Below.refl _ _).drew).below hb6).below hb7).1
      have e2 := (((((((((At.box (i := 6) _ _ rfl).below hb1).below hb2).below hb3).below hb4).below hb5).below (Below.refl _ _).drew).below hb6).below hb7).1
      go_wp2_with fail
      refine (HQ2.out (((((((((H.out.below ((Below.refl _ _).alloc (Nat.le_refl _) _)).below hb1).below hb2).below hb3).below hb4).below hb5).below (Below.refl _ _).drew).below hb6).below hb7)).mono ?_
      rintro e w8 ⟨A_t2, n_t2, c_t2, rfl, o_t2, hb8⟩
      clear e1 e2
      go_wp2_with fail
      refine (same1_yes (o_s2.rd.below hb8) o_t2.rd rfl (by have := o_s2.len; omega)).mono ?_
      rintro e w9 ⟨rfl, hb9⟩
      go_wp2
      go_ret
      exact ⟨rfl, (bt (bt (bt (bt (bt (bt (bt (bt (bt (bt ((Below.refl _ _).alloc (Nat.le_refl _) _) hb1) hb2) hb3) hb4) hb5) (Below.refl _ _).drew) hb6) hb7) hb8) hb9)⟩
    · obtain ⟨zs1, u1, lz1, P1, Q1⟩ := shl_both (n := n) N HA.out (by omega)
      have HP1 := Lib.hid P1
      have HQ1 := Lib.hid Q1
      clear P1 Q1
      have d1 : decide (70000 < N) = true := by simpa using hc1
      have d2 : decide (N ≤ 1048576) = false := by simpa using hc2
      clear hc1 hc2
      go_enter Try.func5, Try.ntmps5
      go_wp2_with fail
      refine (fixed_any _).mono ?_
      rintro e w1 ⟨rfl, hb1⟩
      have e6 := ((At.box (i := 6) _ _ rfl).below hb1).1
      have e4 := ((At.box (i := 4) _ _ rfl).below hb1).1
      go_wp2_with fail
      refine (copiedC_any ((H.out.below ((Below.refl _ _).alloc (Nat.le_refl _) _)).below hb1) (by omega)).mono ?_
      rintro e w2 ⟨A_a1, c_a1, rfl, o_a1, hb2⟩
      go_wp2_with fail
      refine (HP1.out o_a1.rd).mono ?_
      rintro e w3 ⟨A_s, n_s, c_s, rfl, o_s, hb3⟩
      clear e4
      have e4 := ((((At.box (i := 4) _ _ rfl).below hb1).below hb2).below hb3).1
      go_wp2_with fail
      refine (HQ1.out ((((H.out.below ((Below.refl _ _).alloc (Nat.le_refl _) _)).below hb1).below hb2).below hb3)).mono ?_
      rintro e w4 ⟨A_t, n_t, c_t, rfl, o_t, hb4⟩
      clear e4
      go_wp2_with fail
      refine (same1_yes (o_s.rd.below hb4) o_t.rd rfl (by have := o_s.len; omega)).mono ?_
      rintro e w5 ⟨rfl, hb5⟩
      clear o_a1 o_s o_t
      go_wp2_with fail
      have e_f4 := ((((((At.box (i := 4) _ _ rfl).below hb1).below hb2).below hb3).below hb4).below hb5).1
      have g_f4 := At.grow ((((((At.box (i := 4) _ _ rfl).below hb1).below hb2).below hb3).below hb4).below hb5)
      have e_f6 := ((((((At.box (i := 6) _ _ rfl).below hb1).below hb2).below hb3).below hb4).below hb5).1
      have g_f6 := At.grow ((((((At.box (i := 6) _ _ rfl).below hb1).below hb2).below hb3).below hb4).below hb5)
      refine wp_region_grow none [(true, 0), (true, 1), (true, 3), (true, 4), (false, 2), (false, 5), (true, 6), (true, 7), (true, 8), (true, 9), (true, 10), (true, 11), (true, 12)] (by kernel_rfl) (by kernel_rfl) ?_
      repeat (refine ord_pas (by rfl) (fun K hK => ?_); go_simp; refine hK _ _ (fun w' hw' => (by go_simp)) ?_; clear hK K)
      (refine ord_call (by rfl) (fun K hK => ?_); go_simp; refine hK _ _ ?_; clear hK K)
      refine (copiedC_any (((((((H.out.below ((Below.refl _ _).alloc (Nat.le_refl _) _)).below hb1).below hb2).below hb3).below hb4).below hb5).below (Below.refl _ _).drew) (by omega)).mono ?_
      rintro e w6 ⟨A_a2, c_a2, rfl, o_a2, hb6⟩
      refine ⟨_, rfl, Grow.of_below hb6, ?_⟩
      (refine ord_norm (fun K hK => ?_); go_simp; refine hK _ ?_; clear hK K)
      (refine ord_call (by rfl) (fun K hK => ?_); go_simp; refine hK _ _ ?_; clear hK K)
      refine (HP2.out o_a2.rd).mono ?_
      rintro e w7 ⟨A_s2, n_s2, c_s2, rfl, o_s2, hb7⟩
      refine ⟨_, rfl, Grow.of_below hb7, ?_⟩
      (refine ord_norm (fun K hK => ?_); go_simp; refine hK _ ?_; clear hK K)
      repeat (refine ord_pas (by rfl) (fun K hK => ?_); go_simp; refine hK _ _ (fun w' hw' => (by go_simp)) ?_; clear hK K)
      refine ord_nil ?_
      clear g_f4 e_f4 g_f6 e_f6
      have e1 := (((((((((At.box (i := 4) _ _ rfl).below hb1).below hb2).below hb3).below hb4).below hb5).below (Below.refl _ _).drew).below hb6).below hb7).1
      have e2 := (((((((((At.box (i := 6) _ _ rfl).below hb1).below hb2).below hb3).below hb4).below hb5).below (Below.refl _ _).drew).below hb6).below hb7).1
      go_wp2_with fail
      refine (HQ2.out (((((((((H.out.below ((Below.refl _ _).alloc (Nat.le_refl _) _)).below hb1).below hb2).below hb3).below hb4).below hb5).below (Below.refl _ _).drew).below hb6).below hb7)).mono ?_
      rintro e w8 ⟨A_t2, n_t2, c_t2, rfl, o_t2, hb8⟩
      clear e1 e2
      go_wp2_with fail
      refine (same1_yes (o_s2.rd.below hb8) o_t2.rd rfl (by have := o_s2.len; omega)).mono ?_
      rintro e w9 ⟨rfl, hb9⟩
      go_wp2
      go_ret
      exact ⟨rfl, (bt (bt (bt (bt (bt (bt (bt (bt (bt (bt ((Below.refl _ _).alloc (Nat.le_refl _) _) hb1) hb2) hb3) hb4) hb5) (Below.refl _ _).drew) hb6) hb7) hb8) hb9)⟩
  · obtain ⟨zs1, u1, lz1, P1, Q1⟩ := shl_both (n := n) N HA.out (by omega)
    have HP1 := Lib.hid P1
    have HQ1 := Lib.hid Q1
    clear P1 Q1
    have d1 : decide (70000 < N) = false := by simpa using hc1
    clear hc1
    go_enter Try.func5, Try.ntmps5
    go_wp2_with fail
    refine (fixed_any _).mono ?_
    rintro e w1 ⟨rfl, hb1⟩
    have e6 := ((At.box (i := 6) _ _ rfl).below hb1).1
    have e4 := ((At.box (i := 4) _ _ rfl).below hb1).1
    go_wp2_with fail
    refine (copiedC_any ((H.out.below ((Below.refl _ _).alloc (Nat.le_refl _) _)).below hb1) (by omega)).mono ?_
    rintro e w2 ⟨A_a1, c_a1, rfl, o_a1, hb2⟩
    go_wp2_with fail
    refine (HP1.out o_a1.rd).mono ?_
    rintro e w3 ⟨A_s, n_s, c_s, rfl, o_s, hb3⟩
    clear e4
    have e4 := ((((At.box (i := 4) _ _ rfl).below hb1).below hb2).below hb3).1
    go_wp2_with fail
    refine (HQ1.out ((((H.out.below ((Below.refl _ _).alloc (Nat.le_refl _) _)).below hb1).below hb2).below hb3)).mono ?_
    rintro e w4 ⟨A_t, n_t, c_t, rfl, o_t, hb4⟩
    clear e4
    go_wp2_with fail
    refine (same1_yes (o_s.rd.below hb4) o_t.rd rfl (by have := o_s.len; omega)).mono ?_
    rintro e w5 ⟨rfl, hb5⟩
    clear o_a1 o_s o_t
    go_wp2_with fail
    have e_f4 := ((((((At.box (i := 4) _ _ rfl).below hb1).below hb2).below hb3).below hb4).below hb5).1
    have g_f4 := At.grow ((((((At.box (i := 4) _ _ rfl).below hb1).below hb2).below hb3).below hb4).below hb5)
    have e_f6 := ((((((At.box (i := 6) _ _ rfl).below hb1).below hb2).below hb3).below hb4).below hb5).1
    have g_f6 := At.grow ((((((At.box (i := 6) _ _ rfl).below hb1).below hb2).below hb3).below hb4).below hb5)
    refine wp_region_grow none [(true, 0), (true, 1), (true, 3), (true, 4), (false, 2), (false, 5), (true, 6), (true, 7), (true, 8), (true, 9), (true, 10), (true, 11), (true, 12)] (by kernel_rfl) (by kernel_rfl) ?_
    repeat (refine ord_pas (by rfl) (fun K hK => ?_); go_simp; refine hK _ _ (fun w' hw' => (by go_simp)) ?_; clear hK K)
    (refine ord_call (by rfl) (fun K hK => ?_); go_simp; refine hK _ _ ?_; clear hK K)
    refine (copiedC_any (((((((H.out.below ((Below.refl _ _).alloc (Nat.le_refl _) _)).below hb1).below hb2).below hb3).below hb4).below hb5).below (Below.refl _ _).drew) (by omega)).mono ?_
    rintro e w6 ⟨A_a2, c_a2, rfl, o_a2, hb6⟩
    refine ⟨_, rfl, Grow.of_below hb6, ?_⟩
    (refine ord_norm (fun K hK => ?_); go_simp; refine hK _ ?_; clear hK K)
    (refine ord_call (by rfl) (fun K hK => ?_); go_simp; refine hK _ _ ?_; clear hK K)
    refine (HP2.out o_a2.rd).mono ?_
    rintro e w7 ⟨A_s2, n_s2, c_s2, rfl, o_s2, hb7⟩
    refine ⟨_, rfl, Grow.of_below hb7, ?_⟩
    (refine ord_norm (fun K hK => ?_); go_simp; refine hK _ ?_; clear hK K)
    repeat (refine ord_pas (by rfl) (fun K hK => ?_); go_simp; refine hK _ _ (fun w' hw' => (by go_simp)) ?_; clear hK K)
    refine ord_nil ?_
    clear g_f4 e_f4 g_f6 e_f6
    have e1 := (((((((((At.box (i := 4) _ _ rfl).below hb1).below hb2).below hb3).below hb4).below hb5).below (Below.refl _ _).drew).below hb6).below hb7).1
    have e2 := (((((((((At.box (i := 6) _ _ rfl).below hb1).below hb2).below hb3).below hb4).below hb5).below (Below.refl _ _).drew).below hb6).below hb7).1
    go_wp2_with fail
    refine (HQ2.out (((((((((H.out.below ((Below.refl _ _).alloc (Nat.le_refl _) _)).below hb1).below hb2).below hb3).below hb4).below hb5).below (Below.refl _ _).drew).below hb6).below hb7)).mono ?_
    rintro e w8 ⟨A_t2, n_t2, c_t2, rfl, o_t2, hb8⟩
    clear e1 e2
    go_wp2_with fail
    refine (same1_yes (o_s2.rd.below hb8) o_t2.rd rfl (by have := o_s2.len; omega)).mono ?_
    rintro e w9 ⟨rfl, hb9⟩
    go_wp2
    go_ret
    exact ⟨rfl, (bt (bt (bt (bt (bt (bt (bt (bt (bt (bt ((Below.refl _ _).alloc (Nat.le_refl _) _) hb1) hb2) hb3) hb4) hb5) (Below.refl _ _).drew) hb6) hb7) hb8) hb9)⟩
end Go.Proofs.Ytgiecdokjmcogaa
