/-
  Walk: div.knuth.
-/
import Derived.Test.YtamfhmmcnlollaaGreatDivP
import Derived.Test.YtamfhmmcnlollaaGreatKnu3
import Derived.Test.YtamfhmmcnlollaaGreatNatC
namespace Go.Proofs.YtamfhmmcnlollaaGreat
open Go.RowKit
set_option linter.unusedVariables false

theorem RdS.two {w : World} {b : Nat} {A1 A2 : Option Addr} {n1 c1 n2 c2 : Nat} {xs ys : List Nat} {t : TypeId} (hb : b = w.heap.size) (h1 : Rd .u64 w A1 n1 c1 xs) (h2 : Rd .u64 w A2 n2 c2 ys) :
    RdS (w.alloc (.cells #[.slice A1 n1 c1, .slice A2 n2 c2] t)) (some ⟨b, 0, none⟩) 2 2 (fun i => if i = 0 then xs else ys) := by
  subst hb
  refine ⟨Nat.le_refl _, fun _ => ⟨_, _, rfl, by simp, fun i hi => ?_⟩⟩
  rcases (show i = 0 ∨ i = 1 by omega) with rfl | rfl
  · exact ⟨A1, n1, c1, by simp [go_sem], h1.alloc _⟩
  · exact ⟨A2, n2, c2, by simp [go_sem], h2.alloc _⟩

theorem Rd.mid {k : IntKind} {w : World} {b off n c j n' o' : Nat} {xs : List Nat} (h : Rd k w (some ⟨b, off, none⟩) n c xs) (hj : j + n' ≤ n) (ho : o' = off + j) : Rd k w (some ⟨b, o', none⟩) n' (c - j) ((xs.drop j).take n') := by
  subst ho
  have hl := h.len
  have hc := h.cap
  refine ⟨⟨by rw [List.length_take, List.length_drop, hl]; omega, by omega⟩, fun hn => ?_⟩
  obtain ⟨b', off', e, hlt, hcell⟩ := h.2 (by omega)
  injection e with e
  injection e with e1 e2
  subst e1 e2
  refine ⟨b, off + j, rfl, hlt, fun i hi => ?_⟩
  rw [Nat.add_assoc, hcell (j + i) (by omega), nth_take_lt hi, nth_drop_add]
theorem dif_self {t : Nat} (ht : t < W) : dif t t = 0 := by unfold dif; rw [show t + W - t = W by omega, Nat.mod_self]
theorem dif_succ {t : Nat} (ht : t < W) : dif t (t + 1) = W - 1 := by
  unfold dif
  have := W_pos
  rw [show t + W - (t + 1) = W - 1 by omega]
  exact Nat.mod_eq_of_lt (by omega)
set_option maxHeartbeats 8000000 in
set_option maxRecDepth 100000 in
theorem knuth_any {A A2 : Option Addr} {m ca n cb x y : Nat} {w : World} (h : Rd .u64 w A m ca (dg W x)) (h' : Rd .u64 w A2 n cb (dg W y)) (h2 : 2 ≤ n) (hyx : y ≤ x) (hm : m ≤ 2147483648) :
    Calls Tryz.prog 147 #[.slice A m ca, .slice A2 n cb] w (GN2 w (x / y) m (x % y) n) := by
  have hy1 : W ^ (n - 1) ≤ y := by
    have := norm_ge (b := W) (dg_norm (b := W) y) (by intro e; have := h'.len; rw [e] at this; simp at this; omega)
    rwa [dg_val W_gt, h'.len] at this
  have hxm : x < W ^ m := by have := val_lt (dg_all W_gt x); rwa [dg_val W_gt, h.len] at this
  have hnm : n ≤ m := by
    have : W ^ (n - 1) < W ^ m := by omega
    have := (Nat.pow_lt_pow_iff_right W_gt).1 this
    omega
  obtain ⟨s, hs⟩ : ∃ s, s = 64 - blen (nth (dg W y) (n - 1)) := ⟨_, rfl⟩
  have hsl := shift_law (dg_all W_gt y) h'.len (by omega) (by rw [dg_val W_gt]; exact hy1) hs
  rw [dg_val W_gt] at hsl
  obtain ⟨s1, s2, s3⟩ := hsl
  have hvl := dg_len_eq (V := y * 2 ^ s) (by omega) s3 s2
  have hym : y < W ^ n := by have := val_lt (dg_all W_gt y); rwa [dg_val W_gt, h'.len] at this
  have HY : Hid (Num w (.slice A2 n cb) y n) := ⟨_, _, _, _, rfl, h', dg_all W_gt y, dg_val W_gt y, Nat.le_refl _⟩
  have HX : Hid (Num w (.slice A m ca) x m) := ⟨_, _, _, _, rfl, h, dg_all W_gt x, dg_val W_gt x, Nat.le_refl _⟩
  have HT := Lib.hid ((dg_all W_gt y).nth W_pos (n - 1))
  have HS := Lib.hid (And.intro hs (And.intro s1 (And.intro s2 s3)))
  have HVL := Lib.hid hvl
  have HB := Lib.hid (And.intro hy1 hxm)
  obtain ⟨b2, o2, rfl, hb2, hc2⟩ := h'.at (i := n - 1) (by omega)
  have i0 : (0 : Int) ≤ (n : Int) - 1 := by omega
  have i1 : (n : Int) - 1 < (n : Int) := by omega
  have q1 := lay (show ((n : Int) - 1).toNat = n - 1 by omega)
  clear h h' hy1 hxm hs s2 s3 hvl hym
  have C1 := fun w => Lib.hid (lead64_any (w := w) (x := nth (dg W y) (n - 1)) rfl HT.out)
  rw [← HS.out.1] at C1
  go_enter Tryz.func147, Tryz.ntmps147
  go_wp2_with fail
  refine (C1 _).out.mono ?_
  rintro e w' ⟨rfl, rfl⟩
  go_wp2_with fail
  refine (nshl_any HY.out rfl (by omega) (by omega)).mono ?_
  rintro e w1 ⟨A1, n1, c1, rfl, ho1, hb1, hl1⟩
  obtain rfl : n1 = n := by rw [← ho1.len]; exact HVL.out
  go_wp2_with fail
  refine (nshl_any (HX.out.below hb1) rfl (by omega) (by omega)).mono ?_
  rintro e w2 ⟨A3, l, c3, rfl, ho3, hb3, hl3⟩
  have ln_l : l ≤ m + 1 := by
    have : m + s / 64 + 1 = m + 1 := by omega
    omega
  have HV := Lib.hid (And.intro (ho1.below hb3).rd (And.intro ho3.rd (bt hb1 hb3)))
  clear ho1 hb1 ho3 hb3 hl1 hl3
  obtain ⟨Z, hZ⟩ : ∃ Z : Nat, (m : Int) + 1 - (l : Int) = (Z : Int) := ⟨m + 1 - l, by omega⟩
  have ln_Z : Z ≤ m + 1 := by omega
  have HZ : Hid (l + Z = m + 1) := by show _ = _; omega
  go_wp2_with (at_make; refine wpList_mk rfl (.tmp 51) (.tmp 51) rfl elW w2.heap.size Z rfl rfl rfl rfl (by omega) (Nat.le_refl _) ?_; intro w3 ho4 hg4 hb4)
  have HU := Lib.hid (concat_any (n := 2) (c := 2) (RdS.two (b := w3.heap.size) (t := 23) rfl (HV.out.2.1.below hb4) ho4.rd) (by omega) (by
    have h1 := HV.out.2.1.len
    have h2 := HZ.out
    simp [flat, h1]
    omega))
  have HF : Hid (flat (fun i => if i = 0 then dg W (x * 2 ^ s) else List.replicate Z 0) 2 = dg W (x * 2 ^ s) ++ List.replicate Z 0) := by show _ = _; simp [flat]
  rw [HF.out] at HU
  have HB4 := Lib.hid hb4
  clear ho4 hg4 hb4 HF hZ
  go_wp2_with fail
  refine HU.out.mono ?_
  rintro e w5 ⟨A5, n5, c5, rfl, ho5, hb5⟩
  have l5 : n5 = m + 1 := by rw [← ho5.len, List.length_append, List.length_replicate, HV.out.2.1.len]; exact HZ.out
  have HO5 := Lib.hid (And.intro ho5 ((bt ((Below.refl _ _).alloc (Nat.le_refl _) _) hb5)))
  clear ho5 hb5 HU
  subst l5
  obtain ⟨gu, rfl, hgu1, hgu2⟩ := HO5.out.1.form (by omega)
  obtain ⟨R, hR⟩ : ∃ R : Nat, (m : Int) + 1 - (n1 : Int) = (R : Int) := ⟨m + 1 - n1, by omega⟩
  have ln_R : R ≤ m + 1 := by omega
  have HR : Hid (R + n1 = m + 1) := by show _ = _; omega
  go_wp2_with (at_make; refine wpList_mk rfl (.tmp 58) (.tmp 58) rfl elN w5.heap.size R rfl rfl rfl rfl (by omega) (Nat.le_refl _) ?_; intro w6 ho6 hg6 hb6)
  have HK : Hid (KI (x * 2 ^ s) (y * 2 ^ s) n1 (m + 1) R (dg W (x * 2 ^ s) ++ List.replicate Z 0) (List.replicate R 0)) := by
    have e : R = m + 1 - n1 := by have := HR.out; omega
    show KI _ _ _ _ _ _ _
    rw [e]
    refine KI.start (by omega) HB.out.2 HB.out.1 hnm (by rw [List.length_append, List.length_replicate, HV.out.2.1.len]; exact HZ.out) (by rw [List.length_replicate]; omega) ((dg_all W_gt _).append (All.replicate W_pos)) (All.replicate W_pos) (by rw [val_append, val_replicate, dg_val W_gt, Nat.mul_zero, Nat.add_zero]) (val_replicate _) (fun i => ?_)
    rw [nth, List.getElem?_replicate]
    split <;> rfl
  have HW : Hid (Own .u64 41 w2.heap.size w6 (some ⟨gu, 0, none⟩) (m + 1) c5 (dg W (x * 2 ^ s) ++ List.replicate Z 0) ∧ Own .u64 41 w2.heap.size w6 (some ⟨w5.heap.size, 0, none⟩) R R (List.replicate R 0) ∧ Below w2.heap.size w2 w6) :=
    ⟨(HO5.out.1.mono (Nat.le_trans HB4.out.size (by simp))).below hb6, ho6.mono (bt HB4.out HO5.out.2).size, bt (bt HB4.out HO5.out.2) hb6⟩
  obtain ⟨bv, ov, rfl, hbv, hcv1⟩ := HV.out.1.at (i := n1 - 1) (by omega)
  obtain ⟨bv', ov', hA, _, hcv2⟩ := HV.out.1.at (i := n1 - 2) (by omega)
  injection hA with hA
  injection hA with hA1 hA2
  subst hA1 hA2
  have HCV := Lib.hid (And.intro hbv (And.intro hcv1 hcv2))
  have hgne : gu ≠ w5.heap.size := by omega
  have HG := Lib.hid hgne
  have hgB : Hid (w2.heap.size ≤ gu ∧ w2.heap.size ≤ w5.heap.size) := ⟨Nat.le_trans (Nat.le_trans HB4.out.size (by simp)) hgu1, (bt HB4.out HO5.out.2).size⟩
  clear ho6 hg6 hb6 hcv1 hcv2 hbv hgne hR
  have q2 : (n1 : Int) - 1 < (n1 : Int) := by omega
  go_wp2_with fail
  go_loopw [14] (fun iv wr => ∃ (j : Nat) (us qs : List Nat), Hid (KI (x * 2 ^ s) (y * 2 ^ s) n1 (m + 1) j us qs ∧ Own .u64 41 w2.heap.size wr (some ⟨gu, 0, none⟩) (m + 1) c5 us ∧ Own .u64 41 w2.heap.size wr (some ⟨w5.heap.size, 0, none⟩) R R qs ∧ Below w2.heap.size w2 wr) ∧ j ≤ R ∧ iv = .int .i64 ((j : Int) - 1)) (fun iv _ => (intOf iv + 1).toNat)
  case atStart => exact ⟨R, _, _, ⟨HK.out, HW.out⟩, Nat.le_refl _, rfl⟩
  case round =>
    obtain ⟨j, us, qs, hI, hj, rfl⟩ := hrel
    by_cases hj0 : 0 < j
    · obtain ⟨J, rfl⟩ : ∃ J, j = J + 1 := ⟨j - 1, by omega⟩
      have em : ((J + 1 : Nat) : Int) - 1 = (J : Int) := by omega
      rw [em]
      clear em
      have HJN : J + n1 ≤ m := by have := hI.out.1.1.2.2; omega
      have e1 := hI.out.2.1.cell (i := J + n1) (by omega)
      have e2 := hI.out.2.1.cell (i := J + n1 - 1) (by omega)
      have e3 := hI.out.2.1.cell (i := J + n1 - 2) (by omega)
      have e4 : wr.cell? ⟨bv, ov + (n1 - 1), none⟩ = some (.int .u64 ((nth (dg W (y * 2 ^ s)) (n1 - 1) : Nat) : Int)) := (hI.out.2.2.2.cell (p := ⟨bv, ov + (n1 - 1), none⟩) HCV.out.1).trans HCV.out.2.1
      have e5 : wr.cell? ⟨bv, ov + (n1 - 2), none⟩ = some (.int .u64 ((nth (dg W (y * 2 ^ s)) (n1 - 2) : Nat) : Int)) := (hI.out.2.2.2.cell (p := ⟨bv, ov + (n1 - 2), none⟩) HCV.out.1).trans HCV.out.2.2
      have g1 : ∀ w', Grow none wr.drew w' → w'.cell? ⟨gu, J + n1, none⟩ = _ := fun w' h => h.cell e1 (by simp)
      have g2 : ∀ w', Grow none wr.drew w' → w'.cell? ⟨gu, J + n1 - 1, none⟩ = _ := fun w' h => h.cell e2 (by simp)
      have g3 : ∀ w', Grow none wr.drew w' → w'.cell? ⟨gu, J + n1 - 2, none⟩ = _ := fun w' h => h.cell e3 (by simp)
      have g4 : ∀ w', Grow none wr.drew w' → w'.cell? ⟨bv, ov + (n1 - 1), none⟩ = _ := fun w' h => h.cell e4 (by simp)
      have g5 : ∀ w', Grow none wr.drew w' → w'.cell? ⟨bv, ov + (n1 - 2), none⟩ = _ := fun w' h => h.cell e5 (by simp)
      have k1 : (0 : Int) ≤ (J : Int) + (n1 : Int) := by omega
      have k2 : (J : Int) + (n1 : Int) < (m : Int) + 1 := by omega
      have k3 : (0 : Int) ≤ (J : Int) + (n1 : Int) - 1 := by omega
      have k4 : (J : Int) + (n1 : Int) - 1 < (m : Int) + 1 := by omega
      have k5 : (0 : Int) ≤ (J : Int) + (n1 : Int) - 2 := by omega
      have k6 : (J : Int) + (n1 : Int) - 2 < (m : Int) + 1 := by omega
      have k7 : (0 : Int) ≤ (n1 : Int) - 2 := by omega
      have k8 : (n1 : Int) - 2 < (n1 : Int) := by omega
      have k9 : (1 : Int) ≤ (J : Int) + (n1 : Int) := by omega
      have k10 : (2 : Int) ≤ (J : Int) + (n1 : Int) := by omega
      have k11 : (1 : Int) ≤ (n1 : Int) := by omega
      have k12 : (2 : Int) ≤ (n1 : Int) := by omega
      have k13 : (J : Int) + (n1 : Int) < (m : Int) + 1 + 1 := by omega
      have k14 : (J : Int) + (n1 : Int) < (m : Int) + 1 + 2 := by omega
      have r1 := lay (show IntKind.i64.wrap ((J : Int) + (n1 : Int)) = (J : Int) + (n1 : Int) from IntWalk.i64_in _ (by omega))
      have r2 := lay (show IntKind.i64.wrap ((J : Int) + (n1 : Int) - 1) = (J : Int) + (n1 : Int) - 1 from IntWalk.i64_in _ (by omega))
      have r3 := lay (show IntKind.i64.wrap ((J : Int) + (n1 : Int) - 2) = (J : Int) + (n1 : Int) - 2 from IntWalk.i64_in _ (by omega))
      have r4 := lay (show IntKind.i64.wrap ((n1 : Int) - 1) = (n1 : Int) - 1 from IntWalk.i64_in _ (by omega))
      have r5 := lay (show IntKind.i64.wrap ((n1 : Int) - 2) = (n1 : Int) - 2 from IntWalk.i64_in _ (by omega))
      have t1 := lay (show ((J : Int) + (n1 : Int)).toNat = J + n1 by omega)
      have t2 := lay (show ((J : Int) + (n1 : Int) - 1).toNat = J + n1 - 1 by omega)
      have t3 := lay (show ((J : Int) + (n1 : Int) - 2).toNat = J + n1 - 2 by omega)
      have t4 := lay (show ((n1 : Int) - 2).toNat = n1 - 2 by omega)
      go_wp2_with fail
      refine wp_region_grow none [(true, 0), (true, 1), (true, 2), (true, 3), (true, 4), (true, 5), (true, 6), (true, 7), (true, 8), (true, 9), (true, 10), (true, 11), (true, 12), (true, 13), (true, 14), (true, 15), (true, 16), (true, 17), (true, 18), (true, 19), (true, 20), (true, 21), (true, 22), (true, 23), (true, 24), (true, 25), (true, 26), (true, 27), (true, 28), (true, 29), (false, 30), (true, 31)] (by kernel_rfl) (by kernel_rfl) ?_
      repeat (refine ord_pas (by rfl) (fun K hK => ?_); go_simp; refine hK _ _ (fun w' hw' => (by first | (go_simp; done) | (go_simp; intro hh; cases hh))) ?_; clear hK K)
      clear e1 e2 e3 e4 e5 g1 g2 g3 g4 g5 r2 r3 r4 r5 t2 t3 t4 k3 k4 k5 k6 k7 k8 k9 k10 k13 k14
      have HA := Lib.hid hI.out.1.2.1.1
      have HUL := Lib.hid hI.out.1.1.1
      have HPT := Lib.hid (hI.out.1.parts HS.out.2.2.1)
      have HGL := Lib.hid (guess_law (j := J) HA.out (dg_all W_gt (y * 2 ^ s)) h2 (by rw [HUL.out]; omega) HVL.out (dg_val W_gt _) HS.out.2.2.2 HPT.out.2.1)
      have HTP := Lib.hid (top_pos (dg_all W_gt (y * 2 ^ s)) HVL.out (by omega) (by rw [dg_val W_gt]; exact HS.out.2.2.2))
      have HDW := Lib.hid (gq_lt ((nth us (J + n1) * W + nth us (J + n1 - 1)) * W + nth us (J + n1 - 2)) (nth (dg W (y * 2 ^ s)) (n1 - 1) * W + nth (dg W (y * 2 ^ s)) (n1 - 2)))
      (refine ord_call (by rfl) (fun K hK => ?_); go_simp; refine hK _ _ ?_; clear hK K)
      refine (guess_any HTP.out ((dg_all W_gt _).nth W_pos _) ((dg_all W_gt _).nth W_pos _) (HA.out.nth W_pos _) (HA.out.nth W_pos _) HGL.out.1).mono ?_
      rintro e w7 ⟨rfl, hb7⟩
      refine ⟨_, rfl, Grow.of_below hb7, ?_⟩
      (refine ord_norm (fun K hK => ?_); go_simp; refine hK _ ?_; clear hK K)
      generalize gq ((nth us (J + n1) * W + nth us (J + n1 - 1)) * W + nth us (J + n1 - 2)) (nth (dg W (y * 2 ^ s)) (n1 - 1) * W + nth (dg W (y * 2 ^ s)) (n1 - 2)) = d at *
      repeat (refine ord_pas (by rfl) (fun K hK => ?_); go_simp; refine hK _ _ (fun w' hw' => (by first | (go_simp; done) | (go_simp; intro hh; cases hh))) ?_; clear hK K)
      refine ord_nil ?_
      have HI7 := Lib.hid (And.intro (hI.out.2.1.below (bd hb7)) (And.intro (hI.out.2.2.1.below (bd hb7)) (hI.out.2.2.2.trans ((bd hb7).mono hI.out.2.2.2.size))))
      have HKI := Lib.hid hI.out.1
      clear hI hb7
      obtain ⟨DD, dv, lD, aD, bD, vD, P7⟩ := msub_pack (q := d) (n := n1) (m := n1) ((HA.out.drop J).take n1) (dg_all W_gt (y * 2 ^ s)) (by rw [List.length_take, List.length_drop, HUL.out]; omega) HVL.out HDW.out (Nat.le_refl _) (by omega)
      rw [dg_val W_gt, Nat.mul_comm (y * 2 ^ s) d] at vD
      have HP7 := Lib.hid P7
      have HD7 := Lib.hid (And.intro lD (And.intro aD (And.intro bD vD)))
      clear P7 lD aD bD vD
      have hc5 := HI7.out.1.cap.1
      have kA : (J : Int) + (n1 : Int) ≤ (c5 : Int) := by omega
      have kB : (J : Int) ≤ (J : Int) + (n1 : Int) := by omega
      have kC : ¬ c5 = J := by omega
      have kD : J ≤ J + n1 := by omega
      have kE : (J : Int) ≤ (c5 : Int) := by omega
      have kF : (0 : Int) ≤ (J : Int) := by omega
      have htW := HA.out.nth W_pos (J + n1)
      have hTU : topU us J n1 = val W ((us.drop J).take n1) + W ^ n1 * nth us (J + n1) := rfl
      have hV0 : 0 < y * 2 ^ s := Nat.lt_of_lt_of_le (Nat.pow_pos W_pos) HS.out.2.2.2
      have hDl : val W DD < W ^ n1 := by have := val_lt HD7.out.2.1; rwa [HD7.out.1] at this
      go_wp2_with fail
      refine (HP7.out (HI7.out.1.rd.mid (j := J) (n' := n1) (by omega) (by simp)) (HV.out.1.below HI7.out.2.2)).mono ?_
      rintro e w8 ⟨A8, n8, c8, rfl, ho8, hb8⟩
      obtain rfl : n1 = n8 := by rw [← ho8.len]; exact HD7.out.1.symm
      have HI8 := Lib.hid (And.intro (HI7.out.1.below hb8) (And.intro (HI7.out.2.1.below hb8) (bt HI7.out.2.2 hb8)))
      have HO8 := Lib.hid ho8
      clear ho8 hb8 HP7
      have a1 := run_sub (nth us (J + n1)) dv w8
      by_cases ht : dv ≤ nth us (J + n1)
      · obtain ⟨f1, f2, f3⟩ := digit_right (U := topU us J n1) (V := y * 2 ^ s) hTU HD7.out.2.2.2 hDl HGL.out.2.1 hV0 HS.out.2.2.1 ht
        have HF := Lib.hid (And.intro f1 (And.intro f2 f3))
        have hd0 : dif (nth us (J + n1)) dv = 0 := by rw [← f2]; exact dif_self htW
        have hb0 : brw (nth us (J + n1)) dv = 0 := by rw [← f2, brw, if_neg (Nat.lt_irrefl _)]
        rw [hd0, hb0] at a1
        clear hd0 hb0
        have e1 := HI8.out.1.cell (i := J + n1) (by omega)
        clear f1 f2 f3 ht hTU hV0 hDl htW
        have kG : J < R := by omega
        have kH : (J : Int) < (R : Int) := by omega
        go_wp2_with (refine wpList_cp (g := gu) (off := J) rfl (.tmp 124) (.tmp 125) (by rfl) elN (t := 41) (k := .u64) (by rfl) (by rfl) HI8.out.1 HO8.out.rd (by omega) (by omega) ?_; intro w9 ho9 hg9; clear e1; have e1 := ho9.cell (i := J + n1) (by omega); have hfr := ho9.frozen (i := J + n1); have HQ9 := Lib.hid (HI8.out.2.1.grow hg9 (Ne.symm HG.out)); have HB9 := Lib.hid (HI8.out.2.2.trans (hg9.below_of (w := w8) hgB.out.1 HI8.out.2.2.size)); have HO9 := Lib.hid ho9; have e2 := (HQ9.out.grow (Grow.set (g := gu) (p := ⟨gu, J + n1, none⟩) rfl (.int .u64 0)) (Ne.symm HG.out)).cell (i := J) kG; have hfr2 := (HQ9.out.grow (Grow.set (g := gu) (p := ⟨gu, J + n1, none⟩) rfl (.int .u64 0)) (Ne.symm HG.out)).frozen (i := J); clear ho9 hg9)
        go_roundw
        case rel =>
          exact ⟨J, _, _, ⟨HKI.out.step HS.out.2.2.1 HDW.out (Nat.mod_lt _ (Nat.lt_of_lt_of_le (Nat.pow_pos W_pos) HS.out.2.2.2)) HD7.out.2.1 HD7.out.1 HF.out.2.2 (by rw [HF.out.1]; exact (Nat.mod_add_div _ _).symm),
            (HO9.out.stored (i := J + n1) (x := 0)).grow (Grow.set (g := w5.heap.size) (p := ⟨w5.heap.size, J, none⟩) rfl _) HG.out, (HQ9.out.grow (Grow.set rfl _) (Ne.symm HG.out)).stored (i := J) (x := d), (HB9.out.setCell hgB.out.1 _).setCell hgB.out.2 _⟩, by omega, by go_num⟩
        case measure => simp [intOf]
      · obtain ⟨BB, cc, lB, aB, bB, vB, P8⟩ := add_pack (n := n1) (m := n1) HD7.out.2.1 (dg_all W_gt (y * 2 ^ s)) HD7.out.1 HVL.out (by omega) (by omega)
        rw [Nat.max_self] at lB
        rw [val_snoc, lB, dg_val W_gt] at vB
        have hBl : val W BB < W ^ n1 := by have := val_lt aB; rwa [lB] at this
        obtain ⟨f1, f2, f3, f4⟩ := digit_great (U := topU us J n1) (V := y * 2 ^ s) hTU HD7.out.2.2.2 hDl HGL.out.2.2 hV0 HS.out.2.2.1 (by omega) vB hBl
        subst f3
        have hd0 : dif (nth us (J + n1)) dv = W - 1 := by rw [f2]; exact dif_succ htW
        have hb0 : brw (nth us (J + n1)) dv = 1 := by rw [f2, brw, if_pos (Nat.lt_succ_self _)]
        have EW : ((W - 1 : Nat) : Int) = 18446744073709551615 := rfl
        rw [hd0, hb0, EW] at a1
        obtain ⟨D0, hD0⟩ : ∃ D0, D0 = topU us J n1 / (y * 2 ^ s) := ⟨_, rfl⟩
        rw [← hD0] at f1
        subst f1
        have HF := Lib.hid (And.intro hD0 f4)
        have HB8 := Lib.hid (And.intro lB aB)
        have HP8 := Lib.hid P8
        have HDW0 : Hid (D0 < W) := by show _ < _; have := HDW.out; omega
        have u1 := lay (show IntKind.u64.wrap (D0 : Int) = (D0 : Int) from wrapN D0 HDW0.out)
        have u2 := lay (show IntKind.u64.wrap (18446744073709551615 + 1) = 0 by decide)
        have u3 := lay (show IntKind.u64.wrap 18446744073709551616 = 0 by decide)
        have kG : J < R := by omega
        have kH : (J : Int) < (R : Int) := by omega
        clear hd0 hb0 EW ht hTU hV0 hDl htW hD0 f2 f4 lB aB bB vB P8 hBl
        have e1 := HI8.out.1.cell (i := J + n1) (by omega)
        go_wp2_with (refine wpList_cp (g := gu) (off := J) rfl (.tmp 124) (.tmp 125) (by rfl) elN (t := 41) (k := .u64) (by rfl) (by rfl) HI8.out.1 HO8.out.rd (by omega) (by omega) ?_; intro w9 ho9 hg9; clear e1; have e1 := ho9.cell (i := J + n1) (by omega); have hfr := ho9.frozen (i := J + n1); have HQ9 := Lib.hid (HI8.out.2.1.grow hg9 (Ne.symm HG.out)); have HB9 := Lib.hid (HI8.out.2.2.trans (hg9.below_of (w := w8) hgB.out.1 HI8.out.2.2.size)); have HO9 := Lib.hid ho9; clear ho9 hg9)
        have HO9b : Hid (Own .u64 41 w2.heap.size (w9.setCell ⟨gu, J + n1, none⟩ (.int .u64 18446744073709551615)) (some ⟨gu, 0, none⟩) (m + 1) c5 ((spl us J DD).set (J + n1) (W - 1))) := HO9.out.stored (i := J + n1) (x := W - 1)
        have HQ9b := Lib.hid (HQ9.out.grow (Grow.set (g := gu) (p := ⟨gu, J + n1, none⟩) rfl (.int .u64 18446744073709551615)) (Ne.symm HG.out))
        have HB9b := Lib.hid (HB9.out.setCell hgB.out.1 (p := ⟨gu, J + n1, none⟩) (.int .u64 18446744073709551615))
        clear HO9 HQ9 HB9 e1 hfr
        refine (HP8.out (w := w9.setCell ⟨gu, J + n1, none⟩ (.int .u64 18446744073709551615)) (A := some ⟨gu, J, none⟩) (c1 := c5 - J) (by have := HO9b.out.rd.mid (j := J) (n' := n1) (o' := J) (by omega) (by omega); rw [spl_mid' (by rw [HUL.out]; omega) HD7.out.1] at this; exact this) (HV.out.1.below HB9b.out)).mono ?_
        rintro e w10 ⟨A10, n10, c10, rfl, ho10, hb10⟩
        obtain rfl : n1 = n10 := by rw [← ho10.len]; exact HB8.out.1.symm
        have HO10 := Lib.hid ho10
        have HI10 := Lib.hid (And.intro (HO9b.out.below hb10) (And.intro (HQ9b.out.below hb10) (HB9b.out.trans (hb10.mono HB9b.out.size))))
        clear ho10 hb10 HP8
        have L2 : Hid (J + n1 < (spl us J DD).length ∧ nth (spl ((spl us J DD).set (J + n1) (W - 1)) J BB) (J + n1) = W - 1) := by
          have h1 : J + n1 < us.length := by rw [HUL.out]; omega
          have h2 : J + n1 < (spl us J DD).length := by rw [spl_len (by rw [HD7.out.1]; omega)]; exact h1
          exact ⟨h2, by rw [spl_keep (by rw [List.length_set]; exact h2) HB8.out.1, spl_get h1 HD7.out.1]⟩
        go_wp2_with (refine wpList_cp (g := gu) (off := J) rfl (.tmp 150) (.tmp 151) (by rfl) elN (t := 41) (k := .u64) (by rfl) (by rfl) HI10.out.1 HO10.out.rd (by omega) (by omega) ?_; intro w11 ho11 hg11; have e1 := ho11.cell (i := J + n1) (by omega); rw [L2.out.2, show ((W - 1 : Nat) : Int) = 18446744073709551615 from rfl] at e1; have hfr := ho11.frozen (i := J + n1); have HQ11 := Lib.hid (HI10.out.2.1.grow hg11 (Ne.symm HG.out)); have HB11 := Lib.hid (HI10.out.2.2.trans (hg11.below_of (w := w10) hgB.out.1 HI10.out.2.2.size)); have HO11 := Lib.hid ho11; have e2 := (HQ11.out.grow (Grow.set (g := gu) (p := ⟨gu, J + n1, none⟩) rfl (.int .u64 0)) (Ne.symm HG.out)).cell (i := J) kG; have hfr2 := (HQ11.out.grow (Grow.set (g := gu) (p := ⟨gu, J + n1, none⟩) rfl (.int .u64 0)) (Ne.symm HG.out)).frozen (i := J); clear ho11 hg11)
        go_roundw
        case rel =>
          have hou := (HO11.out.stored (i := J + n1) (x := 0)).grow (Grow.set (g := w5.heap.size) (p := ⟨w5.heap.size, J, none⟩) rfl (.int .u64 (D0 : Int))) HG.out
          rw [spl_twice (by rw [HUL.out]; omega) HD7.out.1 HB8.out.1] at hou
          exact ⟨J, _, _, ⟨HKI.out.step HS.out.2.2.1 HDW0.out (Nat.mod_lt _ (Nat.lt_of_lt_of_le (Nat.pow_pos W_pos) HS.out.2.2.2)) HB8.out.2 HB8.out.1 HF.out.2 (by rw [HF.out.1]; exact (Nat.mod_add_div _ _).symm),
            hou, (HQ11.out.grow (Grow.set rfl _) (Ne.symm HG.out)).stored (i := J) (x := D0), (HB11.out.setCell hgB.out.1 _).setCell hgB.out.2 _⟩, by omega, by go_num⟩
        case measure => simp [intOf]
    · obtain rfl : j = 0 := by omega
      rw [show ((0 : Nat) : Int) - 1 = -1 from rfl]
      obtain ⟨d1, d2⟩ := hI.out.1.end HS.out.2.2.1
      have hc5 := hI.out.2.1.cap.1
      have kA : (n1 : Int) ≤ (c5 : Int) := by omega
      have HN : Hid (Num wr (.slice (some ⟨gu, 0, none⟩) n1 c5) (x % y * 2 ^ s) n1) := ⟨_, _, _, _, rfl, hI.out.2.1.rd.upto (j := n1) (by omega), hI.out.1.2.1.1.take n1, d1, Nat.le_refl _⟩
      have HQ : Hid (Num wr (.slice (some ⟨w5.heap.size, 0, none⟩) R R) (x / y) R) := ⟨_, _, _, _, rfl, hI.out.2.2.1.rd, hI.out.1.2.1.2, d2, Nat.le_refl _⟩
      clear d1 d2
      go_wp2_with fail
      refine (nshr_any HN.out rfl (by omega) (by omega)).mono ?_
      rintro e w7 ⟨A7, n7, c7, rfl, ho7, hb7, hl7⟩
      go_wp2_with fail
      refine (nnorm_any (HQ.out.below hb7) (by omega)).mono ?_
      rintro e w8 ⟨A8, n8, c8, rfl, ho8, hb8, hl8⟩
      go_wp2
      go_ret2
      rw [Nat.mul_div_cancel _ (Nat.pow_pos (by omega))] at ho7
      have hB2 := HV.out.2.2.trans (hI.out.2.2.2.mono HV.out.2.2.size)
      exact ⟨_, _, _, _, _, _, rfl, ho8.mono (bt hB2 hb7).size, (ho7.below hb8).mono hB2.size, bt (bt hB2 hb7) hb8, by have := HR.out; omega, hl7⟩
end Go.Proofs.YtamfhmmcnlollaaGreat
