/-
  surdref26.Good.
-/
import Derived.Test.YthckmpfhlgcjhaaGreatEnvCD
namespace Go.Proofs.YthckmpfhlgcjhaaGreat
open Go.RowKit
set_option linter.unusedVariables false
set_option linter.unusedSimpArgs false

theorem rname_k (s : ByteArray) (w : World) (hs : s.size ≤ maxLen) : Calls Tryz.prog 51 #[.string s] w (Keeps (.int .i64 (nm s)) w) := (rname_any s w hs).mono fun e w' ⟨h1, h2⟩ => ⟨h1, h2 ▸ Below.refl _ _⟩
theorem rightc_zero {r : Bn} (h : rightc r = 0) : nm r.1 = 0 ∧ fitc r.2 = 0 := by
  unfold rightc at h
  split at h
  · rename_i h0; exact ⟨h0, h⟩
  · rename_i h0; exact absurd h h0
theorem rightc_bad {r : Bn} (h : ¬ rightc r = 0) : nm r.1 ≠ 0 ∨ (nm r.1 = 0 ∧ fitc r.2 ≠ 0) := by
  unfold rightc at h
  split at h
  · rename_i h0; exact .inr ⟨h0, h⟩
  · rename_i h0; exact .inl h0
set_option maxHeartbeats 16000000 in
set_option maxRecDepth 100000 in
theorem rgood_any {A : Option Addr} {n c L : Nat} {bs : List Bn} {w : World} (h : ListI L w (.slice A n c) bs) (hL1 : 1 ≤ L) (hL : L ≤ 268435456) (hn : n ≤ 1073741824) :
    Calls Tryz.prog 18 #[.slice A n c] w (Keeps (.bool (goodl bs)) w) := by
  have H := Lib.hid h
  have HNQ : Hid (n = bs.length) := h.len.1
  clear h
  go_enter Tryz.func18, Tryz.ntmps18
  go_wp2
  go_loopw [7] (fun kv wr => ∃ (i : Nat), Hid (Below w.heap.size w wr ∧ ∀ j, j < i → okAt bs j = true) ∧ i ≤ n ∧ kv = .int .i64 (i : Int)) (fun kv _ => n - (intOf kv).toNat)
  case atStart => exact ⟨0, ⟨Below.refl _ _, fun j hj => absurd hj (Nat.not_lt_zero j)⟩, Nat.zero_le _, rfl⟩
  case round =>
    obtain ⟨i, hI, hi, rfl⟩ := hrel
    by_cases hlt : i < n
    · obtain ⟨b, off, A1, n1, c1, r, e, hb, eq, h0, h1, h3, h4, h5⟩ := (H.out.below hI.out.1).at (i := i) (by have := HNQ.out; omega)
      have HQ := Lib.hid eq
      have HP := Lib.hid h3
      have HS := Lib.hid h4
      clear eq h3 h4
      subst e
      have i1 : (0 : Int) ≤ (i : Int) := by omega
      have i2 : (i : Int) < (n : Int) := by omega
      have x0 := h0.1
      have x1 := h1.1
      have CN := Lib.hid (rname_k r.1 (World.drew (World.alloc wr (.cells #[.string r.1, .slice A1 n1 c1] 77))) HS.out)
      by_cases hz : rightc r = 0
      · rw [(rightc_zero hz).1] at CN
        have CF := Lib.hid fun w' (hb : Below (World.drew (World.alloc wr (.cells #[.string r.1, .slice A1 n1 c1] 77))).heap.size (World.drew (World.alloc wr (.cells #[.string r.1, .slice A1 n1 c1] 77))) w') => rfits_any ((HP.out.below (belowA _ _).drew).below hb) hL1 hL h5
        rw [(rightc_zero hz).2] at CF
        cases i with
        | zero =>
          simp only [Nat.zero_mul, Nat.add_zero] at x0 x1
          have HN : ∀ j, j < 0 + 1 → okAt bs j = true := fun j hj => by
            obtain rfl : j = 0 := by omega
            rw [okAt_zero, bnat_of HQ.out, decide_eq_true hz]
          have HN := Lib.hid HN
          go_wp2_with fail
          have e_f0 := (At.boxc (i := 0) (v := .string r.1) (t := 77) (b := wr.heap.size) wr #[.string r.1, .slice A1 n1 c1] rfl (by simp)).1
          have g_f0 := At.grow (At.boxc (i := 0) (v := .string r.1) (t := 77) (b := wr.heap.size) wr #[.string r.1, .slice A1 n1 c1] rfl (by simp))
          have e_f1 := (At.boxc (i := 1) (v := .slice A1 n1 c1) (t := 77) (b := wr.heap.size) wr #[.string r.1, .slice A1 n1 c1] rfl (by simp)).1
          have g_f1 := At.grow (At.boxc (i := 1) (v := .slice A1 n1 c1) (t := 77) (b := wr.heap.size) wr #[.string r.1, .slice A1 n1 c1] rfl (by simp))
          refine wp_region_grow none [(true, 0), (true, 1), (false, 2), (true, 3), (true, 4), (true, 5), (true, 6), (false, 7), (true, 8), (true, 9), (true, 10), (true, 11), (true, 12), (true, 13), (true, 14), (true, 15), (true, 16), (true, 17), (true, 18), (true, 19), (true, 20), (true, 21), (true, 22), (true, 23), (true, 24)] (by kernel_rfl) (by kernel_rfl) ?_
          repeat (refine ord_pas (by rfl) (fun K hK => ?_); go_simp; refine hK _ _ (fun w' hw' => (by first | (go_simp; done) | (go_simp; intro hh; cases hh))) ?_; clear hK K)
          (refine ord_call (by rfl) (fun K hK => ?_); go_simp; refine hK _ _ ?_; clear hK K)
          refine (CN.out).mono ?_
          rintro e w1 ⟨rfl, hb1⟩
          refine ⟨_, rfl, Grow.of_below hb1, ?_⟩
          (refine ord_norm (fun K hK => ?_); go_simp; refine hK _ ?_; clear hK K)
          have em_f0 := (((At.boxc (i := 0) (v := .string r.1) (t := 77) (b := wr.heap.size) wr #[.string r.1, .slice A1 n1 c1] rfl (by simp)).below (Below.refl _ _).drew).below hb1).1
          have gm_f0 := At.grow0 (((At.boxc (i := 0) (v := .string r.1) (t := 77) (b := wr.heap.size) wr #[.string r.1, .slice A1 n1 c1] rfl (by simp)).below (Below.refl _ _).drew).below hb1)
          have em_f1 := (((At.boxc (i := 1) (v := .slice A1 n1 c1) (t := 77) (b := wr.heap.size) wr #[.string r.1, .slice A1 n1 c1] rfl (by simp)).below (Below.refl _ _).drew).below hb1).1
          have gm_f1 := At.grow0 (((At.boxc (i := 1) (v := .slice A1 n1 c1) (t := 77) (b := wr.heap.size) wr #[.string r.1, .slice A1 n1 c1] rfl (by simp)).below (Below.refl _ _).drew).below hb1)
          repeat (refine ord_pas (by rfl) (fun K hK => ?_); go_simp; refine hK _ _ (fun w' hw' => (by first | (go_simp; done) | (go_simp; intro hh; cases hh))) ?_; clear hK K)
          clear gm_f0 em_f0 gm_f1 em_f1
          (refine ord_call (by rfl) (fun K hK => ?_); go_simp; refine hK _ _ ?_; clear hK K)
          refine (CF.out _ hb1).mono ?_
          rintro e w2 ⟨rfl, hb2⟩
          refine ⟨_, rfl, Grow.of_below hb2, ?_⟩
          (refine ord_norm (fun K hK => ?_); go_simp; refine hK _ ?_; clear hK K)
          repeat (refine ord_pas (by rfl) (fun K hK => ?_); go_simp; refine hK _ _ (fun w' hw' => (by first | (go_simp; done) | (go_simp; intro hh; cases hh))) ?_; clear hK K)
          refine ord_nil ?_
          have HB := Lib.hid (bt hI.out.1 (bt (bt (bt ((Below.refl _ _).alloc (Nat.le_refl _) (.cells #[.string r.1, .slice A1 n1 c1] 77)) (Below.refl _ _).drew) hb1) hb2))
          go_wp2
          go_roundw
          case rel => exact ⟨0 + 1, ⟨HB.out, HN.out⟩, by omega, by go_num⟩
          case measure => simp [intOf]; omega
        | succ k =>
          obtain ⟨b', off', A3, n3, c3, r3, e3, hb3, eq3, g0, g1, _, _, _⟩ := (H.out.below hI.out.1).at (i := k) (by have := HNQ.out; omega)
          injection e3 with e3
          injection e3 with e3 e4 _
          subst e3 e4
          have HQ3 := Lib.hid eq3
          clear eq3
          have i3 : (0 : Int) < (k : Int) + 1 := by omega
          have i4 : (k : Int) < (n : Int) := by omega
          have i5 : (0 : Int) ≤ (k : Int) := by omega
          have i6 : IntKind.i64.wrap (k : Int) = (k : Int) := by rw [IntKind.wrap_i64]; omega
          by_cases hc : bcmp r3.1 r.1 < 0
          · have HN : ∀ j, j < k + 1 + 1 → okAt bs j = true := fun j hj => by
              rcases Nat.lt_or_ge j (k + 1) with hj2 | hj2
              · exact hI.out.2 j hj2
              · obtain rfl : j = k + 1 := by omega
                rw [okAt_succ, bnat_of HQ.out, bnat_of HQ3.out, decide_eq_true hz, decide_eq_true hc]; rfl
            have HN := Lib.hid HN
            have d3 : Op.bytesLess r3.1.toList r.1.toList = true := by rw [bcmp_lt, decide_eq_true hc]
            go_wp2_with fail
            have e_f0 := (At.boxc (i := 0) (v := .string r.1) (t := 77) (b := wr.heap.size) wr #[.string r.1, .slice A1 n1 c1] rfl (by simp)).1
            have g_f0 := At.grow (At.boxc (i := 0) (v := .string r.1) (t := 77) (b := wr.heap.size) wr #[.string r.1, .slice A1 n1 c1] rfl (by simp))
            have e_f1 := (At.boxc (i := 1) (v := .slice A1 n1 c1) (t := 77) (b := wr.heap.size) wr #[.string r.1, .slice A1 n1 c1] rfl (by simp)).1
            have g_f1 := At.grow (At.boxc (i := 1) (v := .slice A1 n1 c1) (t := 77) (b := wr.heap.size) wr #[.string r.1, .slice A1 n1 c1] rfl (by simp))
            have e_g0 := (g0.below (belowA wr (.cells #[.string r.1, .slice A1 n1 c1] 77))).1
            have g_g0 := At.grow (g0.below (belowA wr (.cells #[.string r.1, .slice A1 n1 c1] 77)))
            have e_g1 := (g1.below (belowA wr (.cells #[.string r.1, .slice A1 n1 c1] 77))).1
            have g_g1 := At.grow (g1.below (belowA wr (.cells #[.string r.1, .slice A1 n1 c1] 77)))
            refine wp_region_grow none [(true, 0), (true, 1), (false, 2), (true, 3), (true, 4), (true, 5), (true, 6), (false, 7), (true, 8), (true, 9), (true, 10), (true, 11), (true, 12), (true, 13), (true, 14), (true, 15), (true, 16), (true, 17), (true, 18), (true, 19), (true, 20), (true, 21), (true, 22), (true, 23), (true, 24)] (by kernel_rfl) (by kernel_rfl) ?_
            repeat (refine ord_pas (by rfl) (fun K hK => ?_); go_simp; refine hK _ _ (fun w' hw' => (by first | (go_simp; done) | (go_simp; intro hh; cases hh))) ?_; clear hK K)
            (refine ord_call (by rfl) (fun K hK => ?_); go_simp; refine hK _ _ ?_; clear hK K)
            refine (CN.out).mono ?_
            rintro e w3 ⟨rfl, hb3⟩
            refine ⟨_, rfl, Grow.of_below hb3, ?_⟩
            (refine ord_norm (fun K hK => ?_); go_simp; refine hK _ ?_; clear hK K)
            have em_f0 := (((At.boxc (i := 0) (v := .string r.1) (t := 77) (b := wr.heap.size) wr #[.string r.1, .slice A1 n1 c1] rfl (by simp)).below (Below.refl _ _).drew).below hb3).1
            have gm_f0 := At.grow0 (((At.boxc (i := 0) (v := .string r.1) (t := 77) (b := wr.heap.size) wr #[.string r.1, .slice A1 n1 c1] rfl (by simp)).below (Below.refl _ _).drew).below hb3)
            have em_f1 := (((At.boxc (i := 1) (v := .slice A1 n1 c1) (t := 77) (b := wr.heap.size) wr #[.string r.1, .slice A1 n1 c1] rfl (by simp)).below (Below.refl _ _).drew).below hb3).1
            have gm_f1 := At.grow0 (((At.boxc (i := 1) (v := .slice A1 n1 c1) (t := 77) (b := wr.heap.size) wr #[.string r.1, .slice A1 n1 c1] rfl (by simp)).below (Below.refl _ _).drew).below hb3)
            have em_g0 := (((g0.below (belowA wr (.cells #[.string r.1, .slice A1 n1 c1] 77))).below (Below.refl _ _).drew).below hb3).1
            have gm_g0 := At.grow0 (((g0.below (belowA wr (.cells #[.string r.1, .slice A1 n1 c1] 77))).below (Below.refl _ _).drew).below hb3)
            have em_g1 := (((g1.below (belowA wr (.cells #[.string r.1, .slice A1 n1 c1] 77))).below (Below.refl _ _).drew).below hb3).1
            have gm_g1 := At.grow0 (((g1.below (belowA wr (.cells #[.string r.1, .slice A1 n1 c1] 77))).below (Below.refl _ _).drew).below hb3)
            repeat (refine ord_pas (by rfl) (fun K hK => ?_); go_simp; refine hK _ _ (fun w' hw' => (by first | (go_simp; done) | (go_simp; intro hh; cases hh))) ?_; clear hK K)
            clear gm_f0 em_f0 gm_f1 em_f1 gm_g0 em_g0 gm_g1 em_g1
            (refine ord_call (by rfl) (fun K hK => ?_); go_simp; refine hK _ _ ?_; clear hK K)
            refine (CF.out _ hb3).mono ?_
            rintro e w4 ⟨rfl, hb4⟩
            refine ⟨_, rfl, Grow.of_below hb4, ?_⟩
            (refine ord_norm (fun K hK => ?_); go_simp; refine hK _ ?_; clear hK K)
            have em_f0 := ((((At.boxc (i := 0) (v := .string r.1) (t := 77) (b := wr.heap.size) wr #[.string r.1, .slice A1 n1 c1] rfl (by simp)).below (Below.refl _ _).drew).below hb3).below hb4).1
            have gm_f0 := At.grow0 ((((At.boxc (i := 0) (v := .string r.1) (t := 77) (b := wr.heap.size) wr #[.string r.1, .slice A1 n1 c1] rfl (by simp)).below (Below.refl _ _).drew).below hb3).below hb4)
            have em_f1 := ((((At.boxc (i := 1) (v := .slice A1 n1 c1) (t := 77) (b := wr.heap.size) wr #[.string r.1, .slice A1 n1 c1] rfl (by simp)).below (Below.refl _ _).drew).below hb3).below hb4).1
            have gm_f1 := At.grow0 ((((At.boxc (i := 1) (v := .slice A1 n1 c1) (t := 77) (b := wr.heap.size) wr #[.string r.1, .slice A1 n1 c1] rfl (by simp)).below (Below.refl _ _).drew).below hb3).below hb4)
            have em_g0 := ((((g0.below (belowA wr (.cells #[.string r.1, .slice A1 n1 c1] 77))).below (Below.refl _ _).drew).below hb3).below hb4).1
            have gm_g0 := At.grow0 ((((g0.below (belowA wr (.cells #[.string r.1, .slice A1 n1 c1] 77))).below (Below.refl _ _).drew).below hb3).below hb4)
            have em_g1 := ((((g1.below (belowA wr (.cells #[.string r.1, .slice A1 n1 c1] 77))).below (Below.refl _ _).drew).below hb3).below hb4).1
            have gm_g1 := At.grow0 ((((g1.below (belowA wr (.cells #[.string r.1, .slice A1 n1 c1] 77))).below (Below.refl _ _).drew).below hb3).below hb4)
            repeat (refine ord_pas (by rfl) (fun K hK => ?_); go_simp; refine hK _ _ (fun w' hw' => (by first | (go_simp; done) | (go_simp; intro hh; cases hh))) ?_; clear hK K)
            clear gm_f0 em_f0 gm_f1 em_f1 gm_g0 em_g0 gm_g1 em_g1
            refine ord_nil ?_
            have HB := Lib.hid (bt hI.out.1 (bt (bt (bt ((Below.refl _ _).alloc (Nat.le_refl _) (.cells #[.string r.1, .slice A1 n1 c1] 77)) (Below.refl _ _).drew) hb3) hb4))
            go_wp2
            go_roundw
            case rel => exact ⟨k + 1 + 1, ⟨HB.out, HN.out⟩, by omega, by go_num⟩
            case measure => simp [intOf]; omega
          · have HF : Hid (goodl bs = false) := goodl_bad (i := k + 1) (by have := HNQ.out; omega) (by rw [okAt_succ, bnat_of HQ.out, bnat_of HQ3.out, decide_eq_false hc, Bool.and_false])
            have d3 : Op.bytesLess r3.1.toList r.1.toList = false := by rw [bcmp_lt, decide_eq_false hc]
            go_wp2_with fail
            have e_f0 := (At.boxc (i := 0) (v := .string r.1) (t := 77) (b := wr.heap.size) wr #[.string r.1, .slice A1 n1 c1] rfl (by simp)).1
            have g_f0 := At.grow (At.boxc (i := 0) (v := .string r.1) (t := 77) (b := wr.heap.size) wr #[.string r.1, .slice A1 n1 c1] rfl (by simp))
            have e_f1 := (At.boxc (i := 1) (v := .slice A1 n1 c1) (t := 77) (b := wr.heap.size) wr #[.string r.1, .slice A1 n1 c1] rfl (by simp)).1
            have g_f1 := At.grow (At.boxc (i := 1) (v := .slice A1 n1 c1) (t := 77) (b := wr.heap.size) wr #[.string r.1, .slice A1 n1 c1] rfl (by simp))
            have e_g0 := (g0.below (belowA wr (.cells #[.string r.1, .slice A1 n1 c1] 77))).1
            have g_g0 := At.grow (g0.below (belowA wr (.cells #[.string r.1, .slice A1 n1 c1] 77)))
            have e_g1 := (g1.below (belowA wr (.cells #[.string r.1, .slice A1 n1 c1] 77))).1
            have g_g1 := At.grow (g1.below (belowA wr (.cells #[.string r.1, .slice A1 n1 c1] 77)))
            refine wp_region_grow none [(true, 0), (true, 1), (false, 2), (true, 3), (true, 4), (true, 5), (true, 6), (false, 7), (true, 8), (true, 9), (true, 10), (true, 11), (true, 12), (true, 13), (true, 14), (true, 15), (true, 16), (true, 17), (true, 18), (true, 19), (true, 20), (true, 21), (true, 22), (true, 23), (true, 24)] (by kernel_rfl) (by kernel_rfl) ?_
            repeat (refine ord_pas (by rfl) (fun K hK => ?_); go_simp; refine hK _ _ (fun w' hw' => (by first | (go_simp; done) | (go_simp; intro hh; cases hh))) ?_; clear hK K)
            (refine ord_call (by rfl) (fun K hK => ?_); go_simp; refine hK _ _ ?_; clear hK K)
            refine (CN.out).mono ?_
            rintro e w5 ⟨rfl, hb5⟩
            refine ⟨_, rfl, Grow.of_below hb5, ?_⟩
            (refine ord_norm (fun K hK => ?_); go_simp; refine hK _ ?_; clear hK K)
            have em_f0 := (((At.boxc (i := 0) (v := .string r.1) (t := 77) (b := wr.heap.size) wr #[.string r.1, .slice A1 n1 c1] rfl (by simp)).below (Below.refl _ _).drew).below hb5).1
            have gm_f0 := At.grow0 (((At.boxc (i := 0) (v := .string r.1) (t := 77) (b := wr.heap.size) wr #[.string r.1, .slice A1 n1 c1] rfl (by simp)).below (Below.refl _ _).drew).below hb5)
            have em_f1 := (((At.boxc (i := 1) (v := .slice A1 n1 c1) (t := 77) (b := wr.heap.size) wr #[.string r.1, .slice A1 n1 c1] rfl (by simp)).below (Below.refl _ _).drew).below hb5).1
            have gm_f1 := At.grow0 (((At.boxc (i := 1) (v := .slice A1 n1 c1) (t := 77) (b := wr.heap.size) wr #[.string r.1, .slice A1 n1 c1] rfl (by simp)).below (Below.refl _ _).drew).below hb5)
            have em_g0 := (((g0.below (belowA wr (.cells #[.string r.1, .slice A1 n1 c1] 77))).below (Below.refl _ _).drew).below hb5).1
            have gm_g0 := At.grow0 (((g0.below (belowA wr (.cells #[.string r.1, .slice A1 n1 c1] 77))).below (Below.refl _ _).drew).below hb5)
            have em_g1 := (((g1.below (belowA wr (.cells #[.string r.1, .slice A1 n1 c1] 77))).below (Below.refl _ _).drew).below hb5).1
            have gm_g1 := At.grow0 (((g1.below (belowA wr (.cells #[.string r.1, .slice A1 n1 c1] 77))).below (Below.refl _ _).drew).below hb5)
            repeat (refine ord_pas (by rfl) (fun K hK => ?_); go_simp; refine hK _ _ (fun w' hw' => (by first | (go_simp; done) | (go_simp; intro hh; cases hh))) ?_; clear hK K)
            clear gm_f0 em_f0 gm_f1 em_f1 gm_g0 em_g0 gm_g1 em_g1
            (refine ord_call (by rfl) (fun K hK => ?_); go_simp; refine hK _ _ ?_; clear hK K)
            refine (CF.out _ hb5).mono ?_
            rintro e w6 ⟨rfl, hb6⟩
            refine ⟨_, rfl, Grow.of_below hb6, ?_⟩
            (refine ord_norm (fun K hK => ?_); go_simp; refine hK _ ?_; clear hK K)
            have em_f0 := ((((At.boxc (i := 0) (v := .string r.1) (t := 77) (b := wr.heap.size) wr #[.string r.1, .slice A1 n1 c1] rfl (by simp)).below (Below.refl _ _).drew).below hb5).below hb6).1
            have gm_f0 := At.grow0 ((((At.boxc (i := 0) (v := .string r.1) (t := 77) (b := wr.heap.size) wr #[.string r.1, .slice A1 n1 c1] rfl (by simp)).below (Below.refl _ _).drew).below hb5).below hb6)
            have em_f1 := ((((At.boxc (i := 1) (v := .slice A1 n1 c1) (t := 77) (b := wr.heap.size) wr #[.string r.1, .slice A1 n1 c1] rfl (by simp)).below (Below.refl _ _).drew).below hb5).below hb6).1
            have gm_f1 := At.grow0 ((((At.boxc (i := 1) (v := .slice A1 n1 c1) (t := 77) (b := wr.heap.size) wr #[.string r.1, .slice A1 n1 c1] rfl (by simp)).below (Below.refl _ _).drew).below hb5).below hb6)
            have em_g0 := ((((g0.below (belowA wr (.cells #[.string r.1, .slice A1 n1 c1] 77))).below (Below.refl _ _).drew).below hb5).below hb6).1
            have gm_g0 := At.grow0 ((((g0.below (belowA wr (.cells #[.string r.1, .slice A1 n1 c1] 77))).below (Below.refl _ _).drew).below hb5).below hb6)
            have em_g1 := ((((g1.below (belowA wr (.cells #[.string r.1, .slice A1 n1 c1] 77))).below (Below.refl _ _).drew).below hb5).below hb6).1
            have gm_g1 := At.grow0 ((((g1.below (belowA wr (.cells #[.string r.1, .slice A1 n1 c1] 77))).below (Below.refl _ _).drew).below hb5).below hb6)
            repeat (refine ord_pas (by rfl) (fun K hK => ?_); go_simp; refine hK _ _ (fun w' hw' => (by first | (go_simp; done) | (go_simp; intro hh; cases hh))) ?_; clear hK K)
            clear gm_f0 em_f0 gm_f1 em_f1 gm_g0 em_g0 gm_g1 em_g1
            refine ord_nil ?_
            have HB := Lib.hid (bt hI.out.1 (bt (bt (bt ((Below.refl _ _).alloc (Nat.le_refl _) (.cells #[.string r.1, .slice A1 n1 c1] 77)) (Below.refl _ _).drew) hb5) hb6))
            go_wp2
            go_ret
            exact ⟨by rw [HF.out]; rfl, HB.out⟩
      · have HF : Hid (goodl bs = false) := goodl_bad (i := i) (by have := HNQ.out; omega) (by
          cases i with
          | zero => rw [okAt_zero, bnat_of HQ.out, decide_eq_false hz]
          | succ k => rw [okAt_succ, bnat_of HQ.out, decide_eq_false hz]; rfl)
        rcases rightc_bad hz with hx | ⟨hx0, hx⟩
        · have d1 : (nm r.1 == 0) = false := by rw [beq_eq_false_iff_ne]; exact hx
          have d2 : (nm r.1 != 0) = true := by simp [bne, d1]
          generalize nm r.1 = z at CN d1 d2
          go_wp2_with fail
          have e_f0 := (At.boxc (i := 0) (v := .string r.1) (t := 77) (b := wr.heap.size) wr #[.string r.1, .slice A1 n1 c1] rfl (by simp)).1
          have g_f0 := At.grow (At.boxc (i := 0) (v := .string r.1) (t := 77) (b := wr.heap.size) wr #[.string r.1, .slice A1 n1 c1] rfl (by simp))
          have e_f1 := (At.boxc (i := 1) (v := .slice A1 n1 c1) (t := 77) (b := wr.heap.size) wr #[.string r.1, .slice A1 n1 c1] rfl (by simp)).1
          have g_f1 := At.grow (At.boxc (i := 1) (v := .slice A1 n1 c1) (t := 77) (b := wr.heap.size) wr #[.string r.1, .slice A1 n1 c1] rfl (by simp))
          refine wp_region_grow none [(true, 0), (true, 1), (false, 2), (true, 3), (true, 4), (true, 5), (true, 6), (true, 7), (true, 8), (true, 9), (true, 10), (true, 11), (true, 12), (true, 13), (true, 14), (true, 15), (true, 16), (true, 17), (true, 18), (true, 19), (true, 20), (true, 21), (true, 22), (true, 23), (true, 24)] (by kernel_rfl) (by kernel_rfl) ?_
          repeat (refine ord_pas (by rfl) (fun K hK => ?_); go_simp; refine hK _ _ (fun w' hw' => (by first | (go_simp; done) | (go_simp; intro hh; cases hh))) ?_; clear hK K)
          (refine ord_call (by rfl) (fun K hK => ?_); go_simp; refine hK _ _ ?_; clear hK K)
          refine (CN.out).mono ?_
          rintro e w7 ⟨rfl, hb7⟩
          refine ⟨_, rfl, Grow.of_below hb7, ?_⟩
          (refine ord_norm (fun K hK => ?_); go_simp; refine hK _ ?_; clear hK K)
          repeat (refine ord_pas (by rfl) (fun K hK => ?_); go_simp; refine hK _ _ (fun w' hw' => (by first | (go_simp; done) | (go_simp; intro hh; cases hh))) ?_; clear hK K)
          refine ord_nil ?_
          have HB := Lib.hid (bt hI.out.1 (bt (bt ((Below.refl _ _).alloc (Nat.le_refl _) (.cells #[.string r.1, .slice A1 n1 c1] 77)) (Below.refl _ _).drew) hb7))
          go_wp2
          go_ret
          exact ⟨by rw [HF.out]; rfl, HB.out⟩
        · rw [hx0] at CN
          have CF := Lib.hid fun w' (hb : Below (World.drew (World.alloc wr (.cells #[.string r.1, .slice A1 n1 c1] 77))).heap.size (World.drew (World.alloc wr (.cells #[.string r.1, .slice A1 n1 c1] 77))) w') => rfits_any ((HP.out.below (belowA _ _).drew).below hb) hL1 hL h5
          have d1 : (fitc r.2 == 0) = false := by rw [beq_eq_false_iff_ne]; exact hx
          have d2 : (fitc r.2 != 0) = true := by simp [bne, d1]
          generalize fitc r.2 = z at CF d1 d2
          go_wp2_with fail
          have e_f0 := (At.boxc (i := 0) (v := .string r.1) (t := 77) (b := wr.heap.size) wr #[.string r.1, .slice A1 n1 c1] rfl (by simp)).1
          have g_f0 := At.grow (At.boxc (i := 0) (v := .string r.1) (t := 77) (b := wr.heap.size) wr #[.string r.1, .slice A1 n1 c1] rfl (by simp))
          have e_f1 := (At.boxc (i := 1) (v := .slice A1 n1 c1) (t := 77) (b := wr.heap.size) wr #[.string r.1, .slice A1 n1 c1] rfl (by simp)).1
          have g_f1 := At.grow (At.boxc (i := 1) (v := .slice A1 n1 c1) (t := 77) (b := wr.heap.size) wr #[.string r.1, .slice A1 n1 c1] rfl (by simp))
          refine wp_region_grow none [(true, 0), (true, 1), (false, 2), (true, 3), (true, 4), (true, 5), (true, 6), (false, 7), (true, 8), (true, 9), (true, 10), (true, 11), (true, 12), (true, 13), (true, 14), (true, 15), (true, 16), (true, 17), (true, 18), (true, 19), (true, 20), (true, 21), (true, 22), (true, 23), (true, 24)] (by kernel_rfl) (by kernel_rfl) ?_
          repeat (refine ord_pas (by rfl) (fun K hK => ?_); go_simp; refine hK _ _ (fun w' hw' => (by first | (go_simp; done) | (go_simp; intro hh; cases hh))) ?_; clear hK K)
          (refine ord_call (by rfl) (fun K hK => ?_); go_simp; refine hK _ _ ?_; clear hK K)
          refine (CN.out).mono ?_
          rintro e w8 ⟨rfl, hb8⟩
          refine ⟨_, rfl, Grow.of_below hb8, ?_⟩
          (refine ord_norm (fun K hK => ?_); go_simp; refine hK _ ?_; clear hK K)
          have em_f0 := (((At.boxc (i := 0) (v := .string r.1) (t := 77) (b := wr.heap.size) wr #[.string r.1, .slice A1 n1 c1] rfl (by simp)).below (Below.refl _ _).drew).below hb8).1
          have gm_f0 := At.grow0 (((At.boxc (i := 0) (v := .string r.1) (t := 77) (b := wr.heap.size) wr #[.string r.1, .slice A1 n1 c1] rfl (by simp)).below (Below.refl _ _).drew).below hb8)
          have em_f1 := (((At.boxc (i := 1) (v := .slice A1 n1 c1) (t := 77) (b := wr.heap.size) wr #[.string r.1, .slice A1 n1 c1] rfl (by simp)).below (Below.refl _ _).drew).below hb8).1
          have gm_f1 := At.grow0 (((At.boxc (i := 1) (v := .slice A1 n1 c1) (t := 77) (b := wr.heap.size) wr #[.string r.1, .slice A1 n1 c1] rfl (by simp)).below (Below.refl _ _).drew).below hb8)
          repeat (refine ord_pas (by rfl) (fun K hK => ?_); go_simp; refine hK _ _ (fun w' hw' => (by first | (go_simp; done) | (go_simp; intro hh; cases hh))) ?_; clear hK K)
          clear gm_f0 em_f0 gm_f1 em_f1
          (refine ord_call (by rfl) (fun K hK => ?_); go_simp; refine hK _ _ ?_; clear hK K)
          refine (CF.out _ hb8).mono ?_
          rintro e w9 ⟨rfl, hb9⟩
          refine ⟨_, rfl, Grow.of_below hb9, ?_⟩
          (refine ord_norm (fun K hK => ?_); go_simp; refine hK _ ?_; clear hK K)
          repeat (refine ord_pas (by rfl) (fun K hK => ?_); go_simp; refine hK _ _ (fun w' hw' => (by first | (go_simp; done) | (go_simp; intro hh; cases hh))) ?_; clear hK K)
          refine ord_nil ?_
          have HB := Lib.hid (bt hI.out.1 (bt (bt (bt ((Below.refl _ _).alloc (Nat.le_refl _) (.cells #[.string r.1, .slice A1 n1 c1] 77)) (Below.refl _ _).drew) hb8) hb9))
          go_wp2
          go_ret
          exact ⟨by rw [HF.out]; rfl, HB.out⟩
    · obtain rfl : i = n := by omega
      have HT : Hid (goodl bs = decide (i ≤ 64)) := by
        show _ = _
        rw [goodl_all (fun j hj => hI.out.2 j (by have := HNQ.out; omega)), ← HNQ.out]
      have HE : (decide ((i : Int) ≤ 64)) = decide (i ≤ 64) := by
        by_cases h : i ≤ 64
        · rw [decide_eq_true (by omega), decide_eq_true h]
        · rw [decide_eq_false (by omega), decide_eq_false h]
      have HB := Lib.hid hI.out.1
      generalize decide (i ≤ 64) = z at HT HE
      go_wp2
      go_ret
      exact ⟨by rw [HT.out]; simp [HE], HB.out⟩
end Go.Proofs.YthckmpfhlgcjhaaGreat
