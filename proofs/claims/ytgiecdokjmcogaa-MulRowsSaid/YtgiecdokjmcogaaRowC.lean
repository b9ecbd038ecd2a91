/-
  Walk: surdref03.Row.
-/
import Derived.Test.YtgiecdokjmcogaaRowB
namespace Go.Proofs.Ytgiecdokjmcogaa
open Go.RowKit
set_option linter.unusedVariables false

theorem elII : ElemS Try.prog 108 89 := ⟨Try.underlying108, by kernel_rfl⟩
theorem OwnR.lit1b {k : IntKind} {t T : TypeId} {B b : Nat} {w : World} {F : Nat → List Nat → Prop} {A1 : Option Addr} {n1 c1 : Nat} {xs : List Nat} (hb : b = w.heap.size) (hne : t ≠ T) (ho : Own k t B w A1 n1 c1 xs) (hF : F 0 xs) (hB : B ≤ w.heap.size) : OwnR k t T B (w.alloc (.cells #[.slice A1 n1 c1] T)) (some ⟨b, 0, none⟩) 1 1 F := by
  subst hb; exact OwnR.lit1 hne ho hF hB
/-- the r-th row in digits of 16 bits -/
def FR (r i : Nat) (xs : List Nat) : Prop := All D xs ∧ val D xs = pas r i ∧ xs.length ≤ r + 1
theorem FR.one (r i : Nat) (h : pas r i = 1) : FR r i [1] := ⟨by simp [All]; decide, by simp [val, h], by simp⟩
theorem FR.fit {r i j : Nat} {xs ys : List Nat} (h : FR r i xs) (h' : FR r j ys) : val D xs + val D ys < D ^ (max xs.length ys.length + 1) := by
  have a := val_lt h.1
  have b := val_lt h'.1
  have h1 : D ^ xs.length ≤ D ^ max xs.length ys.length := Nat.pow_le_pow_right (by decide) (by omega)
  have h2 : D ^ ys.length ≤ D ^ max xs.length ys.length := Nat.pow_le_pow_right (by decide) (by omega)
  rw [Nat.pow_succ]
  have : D ^ max xs.length ys.length * 2 ≤ D ^ max xs.length ys.length * D := Nat.mul_le_mul_left _ (by decide)
  omega

set_option maxHeartbeats 4000000 in
theorem row3_any {N : Nat} {n' : Int} {w : World} (en : n' = (N : Int)) (hN : N ≤ 1000) : Calls Try.prog 50 #[.int .i64 n'] w (GRow w N) := by
  subst en
  have HE := Lib.hid elII
  have HEN := Lib.hid elNats
  go_enter Try.func50, Try.ntmps50
  go_wp2_with fail
  refine (small_ok (by omega) (by omega)).mono ?_
  rintro e w1 ⟨rfl, hb1⟩
  go_wp2_with fail
  have HO : Hid (Own .i64 3 w.heap.size (w1.alloc (.cells #[.int .i64 1] 3)) (some ⟨w1.heap.size, 0, none⟩) 1 1 [1]) := Own.lit (k := .i64) (t := 3) w1 [1] (by simp [maxLen]) hb1.size
  have HB := Lib.hid (hb1.alloc hb1.size (.cells #[.int .i64 1] 3))
  clear hb1
  go_loopw [5, 6] (fun v i wr => ∃ (k : Nat) (B : Option Addr) (e : Nat), Hid (OwnR .i64 3 89 w.heap.size wr B k e (FR (k - 1)) ∧ Below w.heap.size w wr) ∧ 1 ≤ k ∧ k ≤ N + 1 ∧ v = .slice B k e ∧ i = .int .i64 k) (fun _ i _ => N + 1 - (intOf i).toNat)
  case atStart => exact ⟨1, _, _, ⟨OwnR.lit1b (by simp) (by decide) HO.out (FR.one _ _ rfl) HB.out.size, HB.out.alloc HB.out.size _⟩, by omega, by omega, rfl, rfl⟩
  case round =>
    obtain ⟨k, B, e, hI, hk1, hk, rfl, rfl⟩ := hrel
    by_cases hlt : k ≤ N
    · go_wp2_with fail
      have HO2 : Hid (Own .i64 3 wr.heap.size (wr.alloc (.cells #[.int .i64 1] 3)) (some ⟨wr.heap.size, 0, none⟩) 1 1 [1]) := Own.lit (k := .i64) (t := 3) wr [1] (by simp [maxLen]) (Nat.le_refl _)
      have HB2 := Lib.hid ((Below.refl wr.heap.size wr).alloc (Nat.le_refl _) (.cells #[.int .i64 1] 3))
      obtain ⟨wo, rfl⟩ : ∃ wo : World, wo = wr := ⟨_, rfl⟩
      go_loopw [7, 8] (fun v i wi => ∃ (j : Nat) (B2 : Option Addr) (e2 : Nat), Hid (OwnR .i64 3 89 wo.heap.size wi B2 (j + 1) e2 (FR k) ∧ Below wo.heap.size wo wi) ∧ j + 1 ≤ k ∧ v = .slice B2 (j + 1) e2 ∧ i = .int .i64 ((j : Int) + 1)) (fun _ i _ => k - (intOf i).toNat)
      case atStart => exact ⟨0, _, _, ⟨OwnR.lit1b (by simp) (by decide) HO2.out (FR.one _ _ (pas_zero _)) HB2.out.size, HB2.out.alloc HB2.out.size _⟩, by omega, rfl, by go_num⟩
      case round =>
        obtain ⟨j, B2, e2, hJ, hj, rfl, rfl⟩ := hrel
        by_cases hlt2 : j + 1 < k
        · obtain ⟨g, A', n', c', xs, rfl, hBg, hgl, hc, ho, hF⟩ := hI.out.1.at (i := j) (by omega)
          obtain ⟨g2, A2', n2', c2', ys, hA, _, _, hc2, ho2, hF2⟩ := hI.out.1.at (i := j + 1) (by omega)
          injection hA with hA
          injection hA with hA
          subst hA
          have HX := Lib.hid (And.intro hF hF2)
          have HV : Hid (val D xs + val D ys = pas k (j + 1)) := by
            show _ = _
            obtain ⟨r, rfl⟩ : ∃ r, k = r + 1 := ⟨k - 1, by omega⟩
            rw [hF.2.1, hF2.2.1]; rfl
          have lx : n' ≤ k := by have := hF.2.2; rw [ho.len] at this; omega
          have ly : n2' ≤ k := by have := hF2.2.2; rw [ho2.len] at this; omega
          have HR := Lib.hid (And.intro (ho.below hJ.out.2).rd (ho2.below hJ.out.2).rd)
          have hgw : g < wr.heap.size := Nat.lt_of_lt_of_le hgl hJ.out.2.size
          have e1 : wr.cell? ⟨g, j, none⟩ = some (.slice A' n' c') := (hJ.out.2.cell (p := ⟨g, j, none⟩) hgl).trans hc
          have e2' : wr.cell? ⟨g, j + 1, none⟩ = some (.slice A2' n2' c2') := (hJ.out.2.cell (p := ⟨g, j + 1, none⟩) hgl).trans hc2
          have g1 : ∀ w', KB wo.heap.size wr.drew w' → w'.cell? ⟨g, j, none⟩ = some (.slice A' n' c') := fun w' h => (h.cell (p := ⟨g, j, none⟩) hgl hgw).trans e1
          have g2 : ∀ w', KB wo.heap.size wr.drew w' → w'.cell? ⟨g, j + 1, none⟩ = some (.slice A2' n2' c2') := fun w' h => (h.cell (p := ⟨g, j + 1, none⟩) hgl hgw).trans e2'
          have HL1 := Lib.hid ho.len
          have HL2 := Lib.hid ho2.len
          clear hF hF2 ho ho2 hc hc2
          have i1 : (0 : Int) ≤ (j : Int) := by omega
          have i2 : (j : Int) + 1 < (k : Int) := by omega
          have i3 : (0 : Int) ≤ (j : Int) + 1 := by omega
          have i4 : (j : Int) < (k : Int) := by omega
          have q1 := lay (show IntKind.i64.wrap (j : Int) = (j : Int) from IntWalk.i64_in _ (by omega))
          have q2 := lay (show ((j : Int) + 1).toNat = j + 1 by omega)
          go_wp2_with fail
          refine wp_region_fltR (KB wo.heap.size) (KB.refl _) (KB.trans _) (KB.of_grow _) [(0, 0), (0, 1), (0, 2), (0, 3), (0, 4), (0, 5), (0, 6), (0, 7), (0, 8), (0, 9), (3, 10), (3, 11), (3, 12), (3, 13), (0, 14)] (by kernel_rfl) (by kernel_rfl) ?_
          repeat (refine flt_pas (by rfl) (fun K hK => ?_); go_simp; refine hK _ _ (fun w' hw' => (by first | (go_simp; done) | (go_simp; intro hh; cases hh))) ?_; clear hK K)
          clear g1 g2 e1 e2' q1 q2
          (refine flt_callX (by rfl) (fun K hK => ?_); go_simp; refine hK _ _ ?_; clear hK K)
          refine (plus3_full (w := wr.drew) HR.out.1.drew HR.out.2.drew (b := D) (by decide) (by decide) HX.out.1.1 HX.out.2.1 (by omega) (by omega)).mono ?_
          rintro e w3 ⟨A3, c3, zs, rfl, ho3, a3, v3, hb3⟩
          have HZ : Hid (val D zs < D ^ (max n' n2' + 1)) := by show _ < _; rw [v3]; have := HX.out.1.fit HX.out.2; rwa [HL1.out, HL2.out] at this
          have HV3 := Lib.hid v3
          clear v3
          refine ⟨_, rfl, KB.of_below hb3, ?_⟩
          (refine flt_norm (fun K hK => ?_); go_simp; refine hK _ ?_; clear hK K)
          (refine flt_callX (by rfl) (fun K hK => ?_); go_simp; refine hK _ _ ?_; clear hK K)
          refine (carried_any (ho3.mono (Nat.le_refl _)) (a3.up (by decide)) HZ.out (by omega) hb3.size).mono ?_
          rintro e w4 ⟨A4, n4, c4, us, rfl, ho4, a4, v4, hb4, l4⟩
          have HV4 := Lib.hid v4
          clear v4
          refine ⟨_, rfl, KB.of_le hb4 hJ.out.2.size, ?_⟩
          (refine flt_norm (fun K hK => ?_); go_simp; refine hK _ ?_; clear hK K)
          have HB4 := Lib.hid ((hJ.out.2.trans ((bd hb3).mono hJ.out.2.size)).trans (hb4.mono hJ.out.2.size))
          have HO4 := Lib.hid (ho4.mono hJ.out.2.size)
          have HN4 := Lib.hid (hJ.out.1.below ((bd hb3).trans (hb4.mono (Nat.le_refl _))))
          have HF4 : Hid (FR k (j + 1) us) := ⟨a4, by rw [HV4.out, HV3.out, HV.out], by rw [ho4.len]; omega⟩
          clear ho4 hb4 ho3 hb3 a4 a3
          (refine flt_actX (by rfl) (fun K hK => ?_); go_simp)
          refine hK _ _ ⟨KB.of_below ((Below.refl _ _).alloc (Nat.le_refl _) _), ?_⟩
          clear hK K
          (refine flt_norm (fun K hK => ?_); go_simp; refine hK _ ?_; clear hK K)
          refine flt_appR (.tmp 30) (.tmp 42) (by rfl) rfl rfl HE.out (t := 3) (k := .i64) (B := wo.heap.size) (F := FR k) rfl rfl (HN4.out.below ((Below.refl _ _).alloc (Nat.le_refl _) _)) (HO4.out.alloc _) (by simp [go_sem]) HF4.out (by omega) (by have := HB4.out.size; simp; omega) (fun w' h => KB.of_le h (Nat.le_refl _)) (fun A5 c5 w5 ho5 hb5 => ?_)
          have HW := Lib.hid (And.intro ho5 ((HB4.out.alloc HB4.out.size _).trans hb5))
          clear ho5 hb5
          (refine flt_norm (fun K hK => ?_); go_simp; refine hK _ ?_; clear hK K)
          repeat (refine flt_pas (by rfl) (fun K hK => ?_); go_simp; refine hK _ _ (fun w' hw' => (by first | (go_simp; done) | (go_simp; intro hh; cases hh))) ?_; clear hK K)
          refine flt_nil ?_
          go_wp2
          go_roundw
          case rel => exact ⟨j + 1, A5, c5, HW, by omega, by go_num, by go_num⟩
          case measure => simp [intOf]; omega
        · obtain rfl : k = j + 1 := by omega
          have HO5 : Hid (Own .i64 3 wo.heap.size (wr.alloc (.cells #[.int .i64 1] 3)) (some ⟨wr.heap.size, 0, none⟩) 1 1 [1]) := Own.lit (k := .i64) (t := 3) wr [1] (by simp [maxLen]) hJ.out.2.size
          have HN5 := Lib.hid (hJ.out.1.below ((Below.refl _ _).alloc (Nat.le_refl _) (.cells #[.int .i64 1] 3)))
          have HB5 := Lib.hid (hJ.out.2.alloc hJ.out.2.size (.cells #[.int .i64 1] 3))
          go_wp2_with (at_builtin; (refine wpList_appR rfl (.tmp 44) (.tmp 46) rfl HE.out (t := 3) (k := .i64) (B := wo.heap.size) (F := FR (j + 1)) rfl rfl (HN5.out.below ((Below.refl _ _).alloc (Nat.le_refl _) _)) (HO5.out.alloc _) (by simp [go_sem]) (FR.one _ _ (pas_self _)) (by omega) (by have := hJ.out.2.size; simp; omega) ?_); intro A6 c6 w6 ho6 hb6)
          have HW := Lib.hid (And.intro (ho6.mono hI.out.2.size) (hI.out.2.trans (((HB5.out.alloc HB5.out.size _).trans hb6).mono hI.out.2.size)))
          clear ho6 hb6
          go_roundw
          case rel => exact ⟨j + 1 + 1, A6, c6, HW, by omega, by omega, by go_num, by go_num⟩
          case measure => simp [intOf]; omega
    · have hge : N + 1 ≤ k := by omega
      have HK : Hid (k - 1 = N) := by show _ = _; omega
      go_wp2_with fail
      obtain ⟨wo, rfl⟩ : ∃ wo : World, wo = wr := ⟨_, rfl⟩
      go_loopw [9, 10] (fun v i wr => ∃ (j : Nat) (B2 : Option Addr) (e2 : Nat), Hid (OwnR .u64 25 23 wo.heap.size wr B2 j e2 (fun i xs => xs = dg W (pas N i) ∧ xs.length ≤ 1001) ∧ Below wo.heap.size wo wr) ∧ j ≤ N + 1 ∧ v = .slice B2 j e2 ∧ i = .int .i64 (j : Int)) (fun _ i _ => N + 1 - (intOf i).toNat)
      case atStart => exact ⟨0, _, _, ⟨OwnR.nil (by decide), Below.refl _ _⟩, by omega, rfl, rfl⟩
      case round =>
        obtain ⟨j, B2, e2, hJ, hj, rfl, rfl⟩ := hrel
        by_cases hlt2 : j ≤ N
        · obtain ⟨g, A', n', c', xs, rfl, hBg, hgl, hc, ho, hF⟩ := hI.out.1.at (i := j) (by omega)
          have hc' : wr.cell? ⟨g, j, none⟩ = some (.slice A' n' c') := (hJ.out.2.cell (p := ⟨g, j, none⟩) hgl).trans hc
          have HR := Lib.hid (ho.below hJ.out.2).rd
          have HF := Lib.hid hF
          have ln : n' ≤ 1001 := by have := hF.2.2; rw [ho.len] at this; omega
          clear hc ho hF
          go_wp2_with fail
          refine (number3_any HR.out (HF.out.1.up (by decide)) (by omega)).mono ?_
          rintro e w3 ⟨A3, n3, c3, rfl, ho3, hb3, hl3⟩
          have HP : Hid (Own .u64 25 wo.heap.size w3 A3 n3 c3 (dg W (pas N j))) := by
            have := HF.out.2.1
            rw [HK.out] at this
            rw [this] at ho3
            exact ho3.mono hJ.out.2.size
          have HI3 := Lib.hid (And.intro (hJ.out.1.below hb3) (bt hJ.out.2 hb3))
          clear hJ ho3 hb3 hc'
          go_wp2_with (at_builtin; (refine wpList_appR rfl (.tmp 53) (.tmp 59) rfl HEN.out (t := 25) (k := .u64) (B := wo.heap.size) (F := fun i xs => xs = dg W (pas N i) ∧ xs.length ≤ 1001) rfl rfl (HI3.out.1.below ((Below.refl _ _).alloc (Nat.le_refl _) _)) (HP.out.alloc _) (by simp [go_sem]) ⟨rfl, by rw [HP.out.len]; omega⟩ (by omega) (by have := HI3.out.2.size; simp; omega) ?_); intro A4 c4 w4 ho4 hb4)
          have HW := Lib.hid (And.intro ho4 ((HI3.out.2.alloc HI3.out.2.size _).trans hb4))
          clear ho4 hb4
          go_roundw
          case rel => exact ⟨j + 1, A4, c4, HW, by omega, by go_num, by go_num⟩
          case measure => simp [intOf]; omega
        · obtain rfl : j = N + 1 := by omega
          go_wp2
          go_ret2
          exact ⟨_, _, rfl, hJ.out.1.mono hI.out.2.size, bt hI.out.2 hJ.out.2⟩
end Go.Proofs.Ytgiecdokjmcogaa
