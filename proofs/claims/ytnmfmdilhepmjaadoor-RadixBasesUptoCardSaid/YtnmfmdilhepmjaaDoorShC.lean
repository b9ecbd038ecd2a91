/-
  limb.Shr.
-/
import Derived.Test.YtnmfmdilhepmjaaDoorShB
namespace Go.Proofs.YtnmfmdilhepmjaaDoor
open Go.RowKit
set_option linter.unusedVariables false

theorem shr_or {a b r : Nat} (ha : a < W) (hr0 : 0 < r) (hr : r < 64) :
    bits .or .u64 ((a / 2 ^ r : Nat) : Int) (IntKind.u64.wrap ((b : Int) * 2 ^ (64 - r))) = ((shrw a b r : Nat) : Int) := by
  have hW := W_two (r := r) (by omega)
  have c1 : ((b : Int) * 2 ^ (64 - r)) = ((b * 2 ^ (64 - r) : Nat) : Int) := by rw [Int.natCast_mul, Int.natCast_pow]; rfl
  have e2 : a / 2 ^ r < 2 ^ (64 - r) := by
    refine Nat.div_lt_of_lt_mul ?_
    rw [← hW]; exact ha
  have e1 : lo (b * 2 ^ (64 - r)) = 2 ^ (64 - r) * (b % 2 ^ r) := by
    rw [lo, hW, Nat.mul_comm b, Nat.mul_comm (2 ^ r), Nat.mul_mod_mul_left]
  have e3 : a / 2 ^ r < 18446744073709551616 := Nat.lt_of_le_of_lt (Nat.div_le_self _ _) ha
  rw [c1, wrapM, bits_or_u64_nat _ _ e3 (lo_lt _)]
  congr 1
  unfold shrw
  rw [e1, Nat.or_comm, ← Nat.two_pow_add_eq_or_of_lt e2, Nat.add_comm]
theorem divP (a r : Nat) : (a : Int) / 2 ^ r = ((a / 2 ^ r : Nat) : Int) := by rw [Int.natCast_ediv, Int.natCast_pow]; rfl
theorem mulP (a r : Nat) : ((a : Int) * 2 ^ r) = ((a * 2 ^ r : Nat) : Int) := by rw [Int.natCast_mul, Int.natCast_pow]; rfl

set_option maxHeartbeats 400000 in
theorem lshr_neg {v : Value} {z : Int} {w : World} (hz : z < 0) : Calls Tryd.prog 142 #[v, .int .i64 z] w (Gives3 .u64 25 w [] (.bool false) (.int .i64 3)) := by
  have d1 : decide (z < 0) = true := by simpa using hz
  go_enter Tryd.func142, Tryd.ntmps142
  go_wp2
  go_ret3
  exact ⟨_, _, _, rfl, Own.nil, Below.refl _ _⟩

set_option maxHeartbeats 1000000 in
theorem lshr_out {A : Option Addr} {n c s : Nat} {s' : Int} {xs : List Nat} {w : World} (h : Rd .u64 w A n c xs) (hx : All W xs) (es : s' = (s : Int)) (hs : s ≤ 9223372036854775807) (hn : n ≤ 17179869184) (hge : n ≤ s / 64) :
    Calls Tryd.prog 142 #[.slice A n c, .int .i64 s'] w (Gives3 .u64 25 w (wds W (n - s / 64) (val W xs / 2 ^ s)) (.bool (decide (val W xs % 2 ^ s ≠ 0))) (.int .i64 0)) := by
  subst es
  have d1 : decide ((s : Int) < 0) = false := by simp
  have c1 := Lib.hid (top_any A n c xs w h (by omega))
  have e0 : n - s / 64 = 0 := by omega
  rw [e0]
  have hlt : val W xs < 2 ^ s := by
    have a := val_lt hx
    rw [h.len, W_pow2] at a
    exact Nat.lt_of_lt_of_le a (Nat.pow_le_pow_right (by omega) (by omega))
  have HB : Hid (decide (val W xs % 2 ^ s ≠ 0) = decide (0 < (strip xs).length)) := by
    show _ = _
    rw [Nat.mod_eq_of_lt hlt]
    have := strip_nil_iff hx
    rw [decide_eq_decide]
    omega
  have q1 := lay (show (s : Int) / 64 = ((s / 64 : Nat) : Int) by omega)
  have q2 := lay (show (s : Int) % 64 = ((s % 64 : Nat) : Int) by omega)
  have hrl : s % 64 < 64 := by omega
  have hws : s / 64 ≤ 144115188075855871 := by omega
  generalize decide (val W xs % 2 ^ s ≠ 0) = bo at *
  generalize s / 64 = ws at *
  generalize s % 64 = r at *
  generalize (strip xs).length = t at *
  have u1 := lay (show IntKind.u64.wrap (r : Int) = (r : Int) by rw [IntKind.wrap_u64]; omega)
  clear h hx hlt e0
  by_cases ht : 0 < t
  · have d2 : decide (0 < t) = true := by simpa using ht
    have HB2 : Hid (bo = true) := HB.out.trans d2
    clear HB
    go_enter Tryd.func142, Tryd.ntmps142
    go_wp2_with (go_at_call 97; refine c1.out.mono ?_; rintro e w' ⟨rfl, rfl⟩)
    go_ret3
    rw [HB2.out]
    exact ⟨_, _, _, rfl, Own.nil, Below.refl _ _⟩
  · have d2 : decide (0 < t) = false := by simpa using ht
    have HB2 : Hid (bo = false) := HB.out.trans d2
    clear HB
    obtain rfl : t = 0 := by omega
    go_enter Tryd.func142, Tryd.ntmps142
    go_wp2_with (go_at_call 97; refine c1.out.mono ?_; rintro e w' ⟨rfl, rfl⟩)
    go_ret3
    rw [HB2.out]
    exact ⟨_, _, _, rfl, Own.nil, Below.refl _ _⟩

set_option maxHeartbeats 4000000 in
set_option maxRecDepth 100000 in
theorem lshr_in {A : Option Addr} {n c s : Nat} {s' : Int} {xs : List Nat} {w : World} (h : Rd .u64 w A n c xs) (hx : All W xs) (es : s' = (s : Int)) (hn : n ≤ 17179869184) (hge : s / 64 < n) :
    Calls Tryd.prog 142 #[.slice A n c, .int .i64 s'] w (Gives3 .u64 25 w (wds W (n - s / 64) (val W xs / 2 ^ s)) (.bool (decide (val W xs % 2 ^ s ≠ 0))) (.int .i64 0)) := by
  subst es
  have d1 : decide ((s : Int) < 0) = false := by simp
  have H := Lib.hid h
  have HX := Lib.hid hx
  have HE := Lib.hid elW
  have HD : Hid (∀ outs, ShrI xs (s / 64) (s % 64) (n - s / 64) (n - s / 64) outs → outs = wds W (n - s / 64) (val W xs / 2 ^ s)) := fun outs hh => hh.done hx h.len
  have c1 := Lib.hid (top_any A (s / 64) c (xs.take (s / 64)) w (h.upto (by omega)) (by omega))
  have hl := lost_eq hx s
  have hs0 := strip_nil_iff (hx.take (s / 64))
  have q1 := lay (show (s : Int) / 64 = ((s / 64 : Nat) : Int) by omega)
  have q2 := lay (show (s : Int) % 64 = ((s % 64 : Nat) : Int) by omega)
  have hrl : s % 64 < 64 := by omega
  obtain ⟨bo, hbo⟩ : ∃ bo, bo = decide (val W xs % 2 ^ s ≠ 0) := ⟨_, rfl⟩
  have hcap := h.cap
  rw [← hbo]
  generalize wds W (n - s / 64) (val W xs / 2 ^ s) = zs at *
  generalize val W xs % 2 ^ s = L at *
  generalize s / 64 = ws at *
  generalize s % 64 = r at *
  have u1 := lay (show IntKind.u64.wrap (r : Int) = (r : Int) by rw [IntKind.wrap_u64]; omega)
  have u2 := lay (show IntKind.u64.wrap (64 - (r : Int)) = ((64 - r : Nat) : Int) by rw [IntKind.wrap_u64]; omega)
  obtain ⟨m, hm⟩ : ∃ m, n = ws + m := ⟨n - ws, by omega⟩
  have hm' : n - ws = m := by omega
  rw [hm'] at HD
  have em := lay (show (n : Int) - (ws : Int) = (m : Int) by omega)
  have HM := Lib.hid hm
  have hmn : m ≤ n := by omega
  clear hm
  obtain ⟨b, off, ea, hb, hca⟩ := h.at (i := ws) (by omega)
  subst ea
  have BX := hx.nth W_pos ws
  have v1 := lay (show IntKind.u64.wrap ((nth xs ws : Int) * 2 ^ (64 - r)) = ((lo (nth xs ws * 2 ^ (64 - r)) : Nat) : Int) by rw [mulP, wrapM])
  have hg := shl_gone (x := nth xs ws) (r := r) (by omega)
  generalize hy : lo (nth xs ws * 2 ^ (64 - r)) = y at *
  clear h hx hy hm'
  by_cases ht : 0 < (strip (xs.take ws)).length
  · have HB2 : Hid (bo = true) := by
      show _ = _
      rw [hbo, decide_eq_true_eq]
      omega
    clear hl hs0 hg hbo
    generalize (strip (xs.take ws)).length = t at *
    have d2 : decide (0 < t) = true := by simpa using ht
    go_enter Tryd.func142, Tryd.ntmps142
    go_wp2_with fail
    refine c1.out.mono ?_
    rintro e w' ⟨rfl, rfl⟩
    have hm40 : m ≤ 1099511627776 := by omega
    clear c1 BX v1 hca
    go_wp2_with (at_make; refine wpList_mk rfl (.tmp 48) (.tmp 48) rfl HE.out w.heap.size m rfl rfl rfl rfl hm40 (Nat.le_refl _) ?_; intro w1 ho1 hg1 hb1; clear hcap hmn hge em q1 q2)
    have HO : Hid (Own .u64 25 w.heap.size w1 (some ⟨w.heap.size, 0, none⟩) m m (List.replicate m 0) ∧ Below w.heap.size w w1) := ⟨ho1, hb1⟩
    clear ho1 hb1 hg1
    go_loopw [52] (fun i wr => ∃ (k : Nat) (outs : List Nat), Hid (ShrI xs ws r m k outs ∧ Own .u64 25 w.heap.size wr (some ⟨w.heap.size, 0, none⟩) m m outs ∧ Below w.heap.size w wr) ∧ k ≤ m ∧ i = .int .i64 k) (fun i _ => m - (intOf i).toNat)
    case atStart => exact ⟨0, _, ⟨⟨All.replicate W_pos, by simp, fun j hj => by omega⟩, HO.out.1, HO.out.2⟩, by omega, rfl⟩
    case round =>
      obtain ⟨k, outs, hI, hk, rfl⟩ := hrel
      by_cases hlt : k < m
      · obtain ⟨b2, off2, e, hb2, hca⟩ := (H.out.below hI.out.2.2).at (i := ws + k) (by have := HM.out; omega)
        injection e with e
        injection e with e1 e2
        subst e1 e2
        have hwk : ws + k < n := by have := HM.out; omega
        have hcell := hI.out.2.1.cell hlt
        have hfr := hI.out.2.1.frozen (i := k)
        have hsz := Lib.hid (ownlt hI.out.2.1)
        have BX := Lib.hid (HX.out.nth W_pos (ws + k))
        by_cases hr0 : r = 0
        · subst hr0
          go_wp2
          go_roundw
          case rel =>
            refine ⟨k + 1, _, ⟨hI.out.1.step (x := nth xs (ws + k)) BX.out hlt (by rw [if_pos rfl]), hI.out.2.1.stored, hI.out.2.2.setCell (Nat.le_refl _) _⟩, by omega, by go_num⟩
          case measure => simp [intOf]; omega
        · have hr0' : 0 < r := by omega
          have g1 : decide (0 < (r : Int)) = true := by simpa using hr0'
          have HS := Lib.hid (hI.out.1.step (x := shrw (nth xs (ws + k)) (nth xs (ws + k + 1)) r) (shr_word BX.out hr0' hrl).1 hlt (by rw [if_neg hr0]))
          have q5 := lay (divP (nth xs (ws + k)) r)
          have q6 := lay (shr_or (b := nth xs (ws + k + 1)) BX.out hr0' hrl)
          have HO1 := Lib.hid (hI.out.2.1.stored (i := k) (x := nth xs (ws + k) / 2 ^ r))
          have HB1 : Hid (Below w.heap.size w (wr.setCell ⟨w.heap.size, k, none⟩ (.int .u64 ((nth xs (ws + k) / 2 ^ r : Nat) : Int)))) := hI.out.2.2.setCell (Nat.le_refl _) _
          have hl := Lib.hid hI.out.1.2.1
          generalize shrw (nth xs (ws + k)) (nth xs (ws + k + 1)) r = z at *
          generalize nth xs (ws + k) / 2 ^ r = p at *
          have hcell2 := HO1.out.cell (i := k) hlt
          rw [show nth (outs.set k p) k = p by simp [nth, hl.out, hlt]] at hcell2
          have hfr2 := HO1.out.frozen (i := k)
          have c2 := Lib.hid (at_any (some ⟨b, off, none⟩) n c (ws + k + 1) xs (wr.setCell ⟨w.heap.size, k, none⟩ (.int .u64 (p : Int))).drew (H.out.below HB1.out).drew (i' := (ws : Int) + (k : Int) + 1) (by omega) (by omega))
          generalize nth xs (ws + k + 1) = nb at *
          go_wp2
          have i0 : (0 : Int) ≤ (k : Int) := by omega
          have i1 : (k : Int) < (m : Int) := by omega
          have s1 : IntKind.i64.wrap ((ws : Int) + (k : Int)) = (ws : Int) + (k : Int) := IntWalk.i64_in _ (by omega)
          have s2 : IntKind.i64.wrap ((ws : Int) + (k : Int) + 1) = (ws : Int) + (k : Int) + 1 := IntWalk.i64_in _ (by omega)
          refine wp_region_still_tail 15 (by kernel_rfl) (by kernel_rfl) ?_
          simp only [List.take_succ_cons, List.take_zero, List.drop_succ_cons, List.drop_zero]
          change wpStill _ _ (World.drew _) (fun a' => wpList _ _ _ _ a' (World.drew _)) _ _
          repeat still_step
          still_call (c2.out.mono fun e w' h => ⟨h.1, h.2.symm⟩)
          repeat still_step
          refine wpStill_nil ?_
          change wpList _ _ _ _ _ (World.drew _)
          clear s1 s2
          go_wp2
          go_roundw
          case rel =>
            refine ⟨k + 1, _, ⟨HS.out, ?_, (HB1.out.drew.setCell (p := ⟨w.heap.size, k, none⟩) (Nat.le_refl _) (.int .u64 (z : Int)))⟩, by omega, by go_num⟩
            have := HO1.out.drew.stored (i := k) (x := z)
            rw [List.set_set] at this
            exact this
          case measure => simp [intOf]; omega
      · obtain rfl : k = m := by omega
        go_wp2
        go_ret3
        have hI2 := hI.out
        rw [HD.out _ hI2.1] at hI2
        rw [HB2.out]
        exact ⟨_, _, _, rfl, hI2.2.1, hI2.2.2⟩
  · have ht0 : (strip (xs.take ws)).length = 0 := by omega
    have hv0 := hs0.1 ht0
    rw [ht0] at c1
    have hm40 : m ≤ 1099511627776 := by omega
    by_cases hy0 : y = 0
    · have HB2 : Hid (bo = false) := by
        show _ = _
        rw [hbo, hl, hv0, hg.1 hy0]
        simp
      have e0 : ((y : Int) != 0) = false := by simp [hy0]
      clear hl hs0 hg hbo hv0 ht0 ht BX hy0
      generalize nth xs ws = x0 at *
      go_enter Tryd.func142, Tryd.ntmps142
      go_wp2_with fail
      refine c1.out.mono ?_
      rintro e w' ⟨rfl, rfl⟩
      clear c1
      go_wp2_with (at_make; clear v1 hca; refine wpList_mk rfl (.tmp 48) (.tmp 48) rfl HE.out w.heap.size m rfl rfl rfl rfl hm40 (Nat.le_refl _) ?_; intro w1 ho1 hg1 hb1; clear hcap hmn hge em q1 q2)
      have HO : Hid (Own .u64 25 w.heap.size w1 (some ⟨w.heap.size, 0, none⟩) m m (List.replicate m 0) ∧ Below w.heap.size w w1) := ⟨ho1, hb1⟩
      clear ho1 hb1 hg1
      go_loopw [52] (fun i wr => ∃ (k : Nat) (outs : List Nat), Hid (ShrI xs ws r m k outs ∧ Own .u64 25 w.heap.size wr (some ⟨w.heap.size, 0, none⟩) m m outs ∧ Below w.heap.size w wr) ∧ k ≤ m ∧ i = .int .i64 k) (fun i _ => m - (intOf i).toNat)
      case atStart => exact ⟨0, _, ⟨⟨All.replicate W_pos, by simp, fun j hj => by omega⟩, HO.out.1, HO.out.2⟩, by omega, rfl⟩
      case round =>
        obtain ⟨k, outs, hI, hk, rfl⟩ := hrel
        by_cases hlt : k < m
        · obtain ⟨b2, off2, e, hb2, hca⟩ := (H.out.below hI.out.2.2).at (i := ws + k) (by have := HM.out; omega)
          injection e with e
          injection e with e1 e2
          subst e1 e2
          have hwk : ws + k < n := by have := HM.out; omega
          have hcell := hI.out.2.1.cell hlt
          have hfr := hI.out.2.1.frozen (i := k)
          have hsz := Lib.hid (ownlt hI.out.2.1)
          have BX := Lib.hid (HX.out.nth W_pos (ws + k))
          by_cases hr0 : r = 0
          · subst hr0
            go_wp2
            go_roundw
            case rel =>
              refine ⟨k + 1, _, ⟨hI.out.1.step (x := nth xs (ws + k)) BX.out hlt (by rw [if_pos rfl]), hI.out.2.1.stored, hI.out.2.2.setCell (Nat.le_refl _) _⟩, by omega, by go_num⟩
            case measure => simp [intOf]; omega
          · have hr0' : 0 < r := by omega
            have g1 : decide (0 < (r : Int)) = true := by simpa using hr0'
            have HS := Lib.hid (hI.out.1.step (x := shrw (nth xs (ws + k)) (nth xs (ws + k + 1)) r) (shr_word BX.out hr0' hrl).1 hlt (by rw [if_neg hr0]))
            have q5 := lay (divP (nth xs (ws + k)) r)
            have q6 := lay (shr_or (b := nth xs (ws + k + 1)) BX.out hr0' hrl)
            have HO1 := Lib.hid (hI.out.2.1.stored (i := k) (x := nth xs (ws + k) / 2 ^ r))
            have HB1 : Hid (Below w.heap.size w (wr.setCell ⟨w.heap.size, k, none⟩ (.int .u64 ((nth xs (ws + k) / 2 ^ r : Nat) : Int)))) := hI.out.2.2.setCell (Nat.le_refl _) _
            have hl := Lib.hid hI.out.1.2.1
            generalize shrw (nth xs (ws + k)) (nth xs (ws + k + 1)) r = z at *
            generalize nth xs (ws + k) / 2 ^ r = p at *
            have hcell2 := HO1.out.cell (i := k) hlt
            rw [show nth (outs.set k p) k = p by simp [nth, hl.out, hlt]] at hcell2
            have hfr2 := HO1.out.frozen (i := k)
            have c2 := Lib.hid (at_any (some ⟨b, off, none⟩) n c (ws + k + 1) xs (wr.setCell ⟨w.heap.size, k, none⟩ (.int .u64 (p : Int))).drew (H.out.below HB1.out).drew (i' := (ws : Int) + (k : Int) + 1) (by omega) (by omega))
            generalize nth xs (ws + k + 1) = nb at *
            go_wp2
            have i0 : (0 : Int) ≤ (k : Int) := by omega
            have i1 : (k : Int) < (m : Int) := by omega
            have s1 : IntKind.i64.wrap ((ws : Int) + (k : Int)) = (ws : Int) + (k : Int) := IntWalk.i64_in _ (by omega)
            have s2 : IntKind.i64.wrap ((ws : Int) + (k : Int) + 1) = (ws : Int) + (k : Int) + 1 := IntWalk.i64_in _ (by omega)
            refine wp_region_still_tail 15 (by kernel_rfl) (by kernel_rfl) ?_
            simp only [List.take_succ_cons, List.take_zero, List.drop_succ_cons, List.drop_zero]
            change wpStill _ _ (World.drew _) (fun a' => wpList _ _ _ _ a' (World.drew _)) _ _
            repeat still_step
            still_call (c2.out.mono fun e w' h => ⟨h.1, h.2.symm⟩)
            repeat still_step
            refine wpStill_nil ?_
            change wpList _ _ _ _ _ (World.drew _)
            clear s1 s2
            go_wp2
            go_roundw
            case rel =>
              refine ⟨k + 1, _, ⟨HS.out, ?_, (HB1.out.drew.setCell (p := ⟨w.heap.size, k, none⟩) (Nat.le_refl _) (.int .u64 (z : Int)))⟩, by omega, by go_num⟩
              have := HO1.out.drew.stored (i := k) (x := z)
              rw [List.set_set] at this
              exact this
            case measure => simp [intOf]; omega
        · obtain rfl : k = m := by omega
          go_wp2
          go_ret3
          have hI2 := hI.out
          rw [HD.out _ hI2.1] at hI2
          rw [HB2.out]
          exact ⟨_, _, _, rfl, hI2.2.1, hI2.2.2⟩
    · have HB2 : Hid (bo = true) := by
        show _ = _
        have h1 : nth xs ws % 2 ^ r ≠ 0 := fun hh => hy0 (hg.2 hh)
        have h2 : W ^ ws * (nth xs ws % 2 ^ r) ≠ 0 := Nat.mul_ne_zero (Nat.pos_iff_ne_zero.1 (Nat.pow_pos W_pos)) h1
        rw [hbo, hl, hv0, decide_eq_true_eq]
        omega
      have hr1 : 0 < r := by
        rcases Nat.eq_zero_or_pos r with h0 | h0
        · exfalso
          apply hy0
          apply hg.2
          rw [h0]
          simp [Nat.mod_one]
        · exact h0
      have g0 : decide (0 < (r : Int)) = true := by simpa using hr1
      have e0 : ((y : Int) != 0) = true := by simp [hy0]
      clear hl hs0 hg hbo hv0 ht0 ht BX hy0
      generalize nth xs ws = x0 at *
      go_enter Tryd.func142, Tryd.ntmps142
      go_wp2_with fail
      refine c1.out.mono ?_
      rintro e w' ⟨rfl, rfl⟩
      clear c1
      go_wp2_with (at_make; clear v1 hca; refine wpList_mk rfl (.tmp 48) (.tmp 48) rfl HE.out w.heap.size m rfl rfl rfl rfl hm40 (Nat.le_refl _) ?_; intro w1 ho1 hg1 hb1; clear hcap hmn hge em q1 q2 g0 hr1)
      have HO : Hid (Own .u64 25 w.heap.size w1 (some ⟨w.heap.size, 0, none⟩) m m (List.replicate m 0) ∧ Below w.heap.size w w1) := ⟨ho1, hb1⟩
      clear ho1 hb1 hg1
      go_loopw [52] (fun i wr => ∃ (k : Nat) (outs : List Nat), Hid (ShrI xs ws r m k outs ∧ Own .u64 25 w.heap.size wr (some ⟨w.heap.size, 0, none⟩) m m outs ∧ Below w.heap.size w wr) ∧ k ≤ m ∧ i = .int .i64 k) (fun i _ => m - (intOf i).toNat)
      case atStart => exact ⟨0, _, ⟨⟨All.replicate W_pos, by simp, fun j hj => by omega⟩, HO.out.1, HO.out.2⟩, by omega, rfl⟩
      case round =>
        obtain ⟨k, outs, hI, hk, rfl⟩ := hrel
        by_cases hlt : k < m
        · obtain ⟨b2, off2, e, hb2, hca⟩ := (H.out.below hI.out.2.2).at (i := ws + k) (by have := HM.out; omega)
          injection e with e
          injection e with e1 e2
          subst e1 e2
          have hwk : ws + k < n := by have := HM.out; omega
          have hcell := hI.out.2.1.cell hlt
          have hfr := hI.out.2.1.frozen (i := k)
          have hsz := Lib.hid (ownlt hI.out.2.1)
          have BX := Lib.hid (HX.out.nth W_pos (ws + k))
          by_cases hr0 : r = 0
          · subst hr0
            go_wp2
            go_roundw
            case rel =>
              refine ⟨k + 1, _, ⟨hI.out.1.step (x := nth xs (ws + k)) BX.out hlt (by rw [if_pos rfl]), hI.out.2.1.stored, hI.out.2.2.setCell (Nat.le_refl _) _⟩, by omega, by go_num⟩
            case measure => simp [intOf]; omega
          · have hr0' : 0 < r := by omega
            have g1 : decide (0 < (r : Int)) = true := by simpa using hr0'
            have HS := Lib.hid (hI.out.1.step (x := shrw (nth xs (ws + k)) (nth xs (ws + k + 1)) r) (shr_word BX.out hr0' hrl).1 hlt (by rw [if_neg hr0]))
            have q5 := lay (divP (nth xs (ws + k)) r)
            have q6 := lay (shr_or (b := nth xs (ws + k + 1)) BX.out hr0' hrl)
            have HO1 := Lib.hid (hI.out.2.1.stored (i := k) (x := nth xs (ws + k) / 2 ^ r))
            have HB1 : Hid (Below w.heap.size w (wr.setCell ⟨w.heap.size, k, none⟩ (.int .u64 ((nth xs (ws + k) / 2 ^ r : Nat) : Int)))) := hI.out.2.2.setCell (Nat.le_refl _) _
            have hl := Lib.hid hI.out.1.2.1
            generalize shrw (nth xs (ws + k)) (nth xs (ws + k + 1)) r = z at *
            generalize nth xs (ws + k) / 2 ^ r = p at *
            have hcell2 := HO1.out.cell (i := k) hlt
            rw [show nth (outs.set k p) k = p by simp [nth, hl.out, hlt]] at hcell2
            have hfr2 := HO1.out.frozen (i := k)
            have c2 := Lib.hid (at_any (some ⟨b, off, none⟩) n c (ws + k + 1) xs (wr.setCell ⟨w.heap.size, k, none⟩ (.int .u64 (p : Int))).drew (H.out.below HB1.out).drew (i' := (ws : Int) + (k : Int) + 1) (by omega) (by omega))
            generalize nth xs (ws + k + 1) = nb at *
            go_wp2
            have i0 : (0 : Int) ≤ (k : Int) := by omega
            have i1 : (k : Int) < (m : Int) := by omega
            have s1 : IntKind.i64.wrap ((ws : Int) + (k : Int)) = (ws : Int) + (k : Int) := IntWalk.i64_in _ (by omega)
            have s2 : IntKind.i64.wrap ((ws : Int) + (k : Int) + 1) = (ws : Int) + (k : Int) + 1 := IntWalk.i64_in _ (by omega)
            refine wp_region_still_tail 15 (by kernel_rfl) (by kernel_rfl) ?_
            simp only [List.take_succ_cons, List.take_zero, List.drop_succ_cons, List.drop_zero]
            change wpStill _ _ (World.drew _) (fun a' => wpList _ _ _ _ a' (World.drew _)) _ _
            repeat still_step
            still_call (c2.out.mono fun e w' h => ⟨h.1, h.2.symm⟩)
            repeat still_step
            refine wpStill_nil ?_
            change wpList _ _ _ _ _ (World.drew _)
            clear s1 s2
            go_wp2
            go_roundw
            case rel =>
              refine ⟨k + 1, _, ⟨HS.out, ?_, (HB1.out.drew.setCell (p := ⟨w.heap.size, k, none⟩) (Nat.le_refl _) (.int .u64 (z : Int)))⟩, by omega, by go_num⟩
              have := HO1.out.drew.stored (i := k) (x := z)
              rw [List.set_set] at this
              exact this
            case measure => simp [intOf]; omega
        · obtain rfl : k = m := by omega
          go_wp2
          go_ret3
          have hI2 := hI.out
          rw [HD.out _ hI2.1] at hI2
          rw [HB2.out]
          exact ⟨_, _, _, rfl, hI2.2.1, hI2.2.2⟩
end Go.Proofs.YtnmfmdilhepmjaaDoor
