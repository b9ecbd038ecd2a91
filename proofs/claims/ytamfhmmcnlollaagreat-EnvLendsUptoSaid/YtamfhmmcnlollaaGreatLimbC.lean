/-
  Walks: nat.Sub, limb.Add, nat.Add.
-/
import Derived.Test.YtamfhmmcnlollaaGreatLimX
import Derived.Test.YtamfhmmcnlollaaGreatOrd
namespace Go.Proofs.YtamfhmmcnlollaaGreat
open Go.RowKit
set_option linter.unusedVariables false
def AddI (xs ys : List Nat) (n k cn : Nat) (outs : List Nat) : Prop :=
  k ≤ n ∧ cn ≤ 1 ∧ All W outs ∧ outs.length = n ∧ outs.drop k = xs.drop k ∧ val W (outs.take k) + W ^ k * cn = val W (xs.take k) + val W (ys.take k)
theorem AddI.step {xs ys outs : List Nat} {n k cn : Nat} (h : AddI xs ys n k cn outs) (hx : All W xs) (hy : All W ys) (hk : k < n) :
    AddI xs ys n (k + 1) (hi (nth xs k + nth ys k + cn)) (outs.set k (lo (nth xs k + nth ys k + cn))) := by
  obtain ⟨h1, h2, h3, h4, h5, h6⟩ := h
  have bx := hx.nth W_pos k
  have by_ := hy.nth W_pos k
  have e1 := lo_hi (nth xs k + nth ys k + cn)
  have e2 := lo_lt (nth xs k + nth ys k + cn)
  refine ⟨hk, ?_, h3.set e2 k, by simpa using h4, ?_, ?_⟩
  · unfold hi; rw [W_eq] at *; omega
  · rw [List.drop_set_of_lt (by omega)]
    have := congrArg (List.drop 1) h5
    simpa [List.drop_drop, Nat.add_comm] using this
  · rw [val_set_take (by omega), val_take_succ' xs k, val_take_succ' ys k, Nat.pow_succ]
    generalize lo (nth xs k + nth ys k + cn) = l at *
    generalize hi (nth xs k + nth ys k + cn) = g at *
    have e4 : W ^ k * l + W ^ k * W * g = W ^ k * nth xs k + W ^ k * nth ys k + W ^ k * cn := by
      rw [Nat.mul_assoc, ← Nat.mul_add, e1, Nat.mul_add, Nat.mul_add]
    omega
theorem AddI.done {xs ys outs : List Nat} {n k cn : Nat} (h : AddI xs ys n k cn outs) (hx : All W xs) (hn : xs.length = n) (hm : ys.length ≤ k) (hc : k = n ∨ cn = 0) :
    outs = wds W n (val W xs + val W ys) ∧ cn = (val W xs + val W ys) / W ^ n := by
  obtain ⟨h1, h2, h3, h4, h5, h6⟩ := h
  rw [val_take_ge hm] at h6
  have key : val W outs + W ^ n * cn = val W xs + val W ys := by
    have e1 : val W outs = val W (outs.take k) + W ^ k * val W (outs.drop k) := by
      have := val_append (b := W) (outs.take k) (outs.drop k)
      rw [List.take_append_drop, List.length_take, h4, Nat.min_eq_left h1] at this
      exact this
    have e2 : val W xs = val W (xs.take k) + W ^ k * val W (xs.drop k) := by
      have := val_append (b := W) (xs.take k) (xs.drop k)
      rw [List.take_append_drop, List.length_take, hn, Nat.min_eq_left h1] at this
      exact this
    rw [h5] at e1
    rcases hc with rfl | rfl
    · omega
    · simp only [Nat.mul_zero, Nat.add_zero] at h6 ⊢
      omega
  have l := val_lt h3
  rw [h4] at l
  refine ⟨eq_wds h3 h4 ?_, ?_⟩
  · rw [← key, Nat.add_mul_mod_self_left, Nat.mod_eq_of_lt l]
  · rw [← key, Nat.add_mul_div_left _ _ (Nat.pow_pos W_pos), Nat.div_eq_of_lt l, Nat.zero_add]

set_option maxHeartbeats 1000000 in
set_option maxRecDepth 100000 in
theorem ladd_ge (A A2 : Option Addr) (n c m c2 : Nat) (xs ys : List Nat) (w : World) (h : Rd .u64 w A n c xs) (h2 : Rd .u64 w A2 m c2 ys) (hx : All W xs) (hy : All W ys) (hn : n ≤ 1099511627776) (hmn : m ≤ n) :
    Calls Tryz.prog 142 #[.slice A n c, .slice A2 m c2] w (Gives2 .u64 41 w (wds W n (val W xs + val W ys)) (.int .u64 (((val W xs + val W ys) / W ^ n : Nat) : Int))) := by
  have H := Lib.hid h
  have H2 := Lib.hid h2
  have HX := Lib.hid hx
  have HY := Lib.hid hy
  have HN := Lib.hid hn
  have hm : m ≤ 1099511627776 := by omega
  have HM := Lib.hid hm
  clear h h2 hx hy hm hn
  generalize hzs : wds W n (val W xs + val W ys) = zs
  generalize hbv : (val W xs + val W ys) / W ^ n = bv at *
  have HZ := Lib.hid hzs
  have HB := Lib.hid hbv
  clear hzs hbv
  go_enter Tryz.func142, Tryz.ntmps142
  go_wp2_with fail
  go_step3
  go_wp2_with (go_at_call 143; refine (clone_any A n c xs w H.out HN.out).mono ?_; rintro e w1 ⟨A1, n1, c1, rfl, ho1, hb1⟩)
  go_step3
  go_wp2
  obtain rfl : n1 = n := by rw [← ho1.len, H.out.len]
  have HO : Hid (Own .u64 41 w.heap.size w1 A1 n1 c1 xs ∧ Below w.heap.size w w1) := ⟨ho1, hb1⟩
  clear ho1 hb1
  go_loopw [7, 20] (fun cv i wr => ∃ (k cn : Nat) (outs : List Nat), Hid (AddI xs ys n1 k cn outs ∧ Own .u64 41 w.heap.size wr A1 n1 c1 outs ∧ Below w.heap.size w wr) ∧ cv = .int .u64 cn ∧ i = .int .i64 k) (fun _ i _ => n1 - (intOf i).toNat)
  case atStart => exact ⟨0, 0, xs, ⟨⟨Nat.zero_le _, Nat.zero_le _, HX.out, H.out.len, rfl, by simp [val]⟩, HO.out.1, HO.out.2⟩, rfl, rfl⟩
  case round =>
    obtain ⟨k, cn, outs, hI, rfl, rfl⟩ := hrel
    have hk : k ≤ n1 := hI.out.1.1
    by_cases hlt : k < n1
    · by_cases hbr : m ≤ k ∧ cn = 0
      · obtain ⟨hb1, hb2⟩ := hbr
        subst hb2
        go_wp2
        go_ret2
        obtain ⟨e1, e2⟩ := hI.out.1.done HX.out H.out.len (by rw [H2.out.len]; exact hb1) (.inr rfl)
        refine ⟨_, _, _, ?_, by rw [← HZ.out, ← e1]; exact hI.out.2.1, hI.out.2.2⟩
        rw [← HB.out, ← e2]
        rfl
      · obtain ⟨g, hg, hgB, hgs⟩ := hI.out.2.1.form (by omega)
        subst hg
        have hcell := hI.out.2.1.cell hlt
        have hfr := hI.out.2.1.frozen (i := k)
        have R1 := Lib.hid (H.out.below hI.out.2.2)
        have R2 := Lib.hid (H2.out.below hI.out.2.2)
        obtain ⟨b, off, e, hb, hca⟩ := R1.out.at hlt
        subst e
        have B1 := Lib.hid (HX.out.nth W_pos k)
        have B2 := Lib.hid (HY.out.nth W_pos k)
        have B3 : Hid (cn < W) := by show cn < W; have := hI.out.1.2.1; rw [W_eq]; omega
        have i1 : (0 : Int) ≤ (k : Int) := by omega
        have i2 : (k : Int) < (n1 : Int) := by omega
        have hca' : ∀ w', Grow (some g) wr.drew w' → w'.cell? ⟨b, off + k, none⟩ = some (.int .u64 ((nth xs k : Nat) : Int)) := fun w' h => h.cell hca (by simp; have := H.out.lt hlt; omega)
        have hN := HN.out
        by_cases hmk : m ≤ k
        · have hcn : ((cn : Int) == 0) = false := by rw [beq_eq_false_iff_ne]; omega
          clear hbr
          go_wp2
          refine wp_region_grow (some g) [(true, 0), (true, 1), (true, 2), (true, 3), (true, 4), (true, 5), (true, 6), (true, 7), (true, 9), (false, 8), (false, 10), (true, 11), (true, 12), (true, 13), (true, 14), (false, 15), (true, 16)] (by kernel_rfl) (by kernel_rfl) ?_
          repeat (refine ord_pas (by rfl) (fun K hK => ?_); go_simp; refine hK _ _ (fun w' hw' => (by first | (go_simp; done) | (go_simp; intro hh; cases hh))) ?_; clear hK K)
          (refine ord_call (by rfl) (fun K hK => ?_); go_simp; refine hK _ _ ?_; clear hK K)
          refine (at_any A2 m c2 k ys _ R2.out.drew rfl HM.out).mono ?_
          rintro e w' ⟨rfl, rfl⟩
          refine ⟨_, rfl, Grow.refl _ _, ?_⟩
          (refine ord_norm (fun K hK => ?_); go_simp; refine hK _ ?_; clear hK K)
          (refine ord_call (by rfl) (fun K hK => ?_); go_simp; refine hK _ _ ?_; clear hK K)
          refine (addW_any (nth xs k) (nth ys k) cn _ B1.out B2.out B3.out rfl rfl rfl).mono ?_
          rintro e w' ⟨rfl, rfl⟩
          refine ⟨_, rfl, Grow.refl _ _, ?_⟩
          (refine ord_norm (fun K hK => ?_); go_simp; refine hK _ ?_; clear hK K)
          repeat (refine ord_pas (by rfl) (fun K hK => ?_); go_simp; refine hK _ _ (fun w' hw' => (by first | (go_simp; done) | (go_simp; intro hh; cases hh))) ?_; clear hK K)
          (refine ord_act (by rfl) (fun K hK => ?_); go_simp)
          refine hK _ _ ⟨Grow.set rfl _, ?_⟩
          clear hK K
          clear hca'
          repeat (refine ord_pas (by rfl) (fun K hK => ?_); go_simp; refine hK _ _ (fun w' hw' => (by first | (go_simp; done) | (go_simp; intro hh; cases hh))) ?_; clear hK K)
          refine ord_nil ?_
          go_wp2
          go_roundw
          case rel =>
            refine ⟨k + 1, _, _, ⟨hI.out.1.step HX.out HY.out hlt, hI.out.2.1.drew.stored, hI.out.2.2.drew.setCell hgB _⟩, rfl, by go_num⟩
          case measure => simp [intOf]; omega
        · clear hbr
          go_wp2
          refine wp_region_grow (some g) [(true, 0), (true, 1), (true, 2), (true, 3), (true, 4), (true, 5), (true, 6), (true, 7), (true, 9), (false, 8), (false, 10), (true, 11), (true, 12), (true, 13), (true, 14), (false, 15), (true, 16)] (by kernel_rfl) (by kernel_rfl) ?_
          repeat (refine ord_pas (by rfl) (fun K hK => ?_); go_simp; refine hK _ _ (fun w' hw' => (by first | (go_simp; done) | (go_simp; intro hh; cases hh))) ?_; clear hK K)
          (refine ord_call (by rfl) (fun K hK => ?_); go_simp; refine hK _ _ ?_; clear hK K)
          refine (at_any A2 m c2 k ys _ R2.out.drew rfl HM.out).mono ?_
          rintro e w' ⟨rfl, rfl⟩
          refine ⟨_, rfl, Grow.refl _ _, ?_⟩
          (refine ord_norm (fun K hK => ?_); go_simp; refine hK _ ?_; clear hK K)
          (refine ord_call (by rfl) (fun K hK => ?_); go_simp; refine hK _ _ ?_; clear hK K)
          refine (addW_any (nth xs k) (nth ys k) cn _ B1.out B2.out B3.out rfl rfl rfl).mono ?_
          rintro e w' ⟨rfl, rfl⟩
          refine ⟨_, rfl, Grow.refl _ _, ?_⟩
          (refine ord_norm (fun K hK => ?_); go_simp; refine hK _ ?_; clear hK K)
          repeat (refine ord_pas (by rfl) (fun K hK => ?_); go_simp; refine hK _ _ (fun w' hw' => (by first | (go_simp; done) | (go_simp; intro hh; cases hh))) ?_; clear hK K)
          (refine ord_act (by rfl) (fun K hK => ?_); go_simp)
          refine hK _ _ ⟨Grow.set rfl _, ?_⟩
          clear hK K
          clear hca'
          repeat (refine ord_pas (by rfl) (fun K hK => ?_); go_simp; refine hK _ _ (fun w' hw' => (by first | (go_simp; done) | (go_simp; intro hh; cases hh))) ?_; clear hK K)
          refine ord_nil ?_
          go_wp2
          go_roundw
          case rel =>
            refine ⟨k + 1, _, _, ⟨hI.out.1.step HX.out HY.out hlt, hI.out.2.1.drew.stored, hI.out.2.2.drew.setCell hgB _⟩, rfl, by go_num⟩
          case measure => simp [intOf]; omega
    · obtain rfl : k = n1 := by omega
      go_wp2
      go_ret2
      obtain ⟨e1, e2⟩ := hI.out.1.done HX.out H.out.len (by rw [H2.out.len]; omega) (.inl rfl)
      refine ⟨_, _, _, ?_, by rw [← HZ.out, ← e1]; exact hI.out.2.1, hI.out.2.2⟩
      rw [← HB.out, ← e2]
      rfl
set_option maxHeartbeats 1000000 in
set_option maxRecDepth 100000 in
theorem ladd_lt (A A2 : Option Addr) (n c m c2 : Nat) (xs ys : List Nat) (w : World) (h : Rd .u64 w A n c xs) (h2 : Rd .u64 w A2 m c2 ys) (hx : All W xs) (hy : All W ys) (hn : n ≤ 1099511627776) (hmn : m < n) :
    Calls Tryz.prog 142 #[.slice A2 m c2, .slice A n c] w (Gives2 .u64 41 w (wds W n (val W xs + val W ys)) (.int .u64 (((val W xs + val W ys) / W ^ n : Nat) : Int))) := by
  have H := Lib.hid h
  have H2 := Lib.hid h2
  have HX := Lib.hid hx
  have HY := Lib.hid hy
  have HN := Lib.hid hn
  have hm : m ≤ 1099511627776 := by omega
  have HM := Lib.hid hm
  clear h h2 hx hy hm hn
  generalize hzs : wds W n (val W xs + val W ys) = zs
  generalize hbv : (val W xs + val W ys) / W ^ n = bv at *
  have HZ := Lib.hid hzs
  have HB := Lib.hid hbv
  clear hzs hbv
  go_enter Tryz.func142, Tryz.ntmps142
  go_wp2_with fail
  go_step3
  go_wp2_with (go_at_call 143; refine (clone_any A n c xs w H.out HN.out).mono ?_; rintro e w1 ⟨A1, n1, c1, rfl, ho1, hb1⟩)
  go_step3
  go_wp2
  obtain rfl : n1 = n := by rw [← ho1.len, H.out.len]
  have HO : Hid (Own .u64 41 w.heap.size w1 A1 n1 c1 xs ∧ Below w.heap.size w w1) := ⟨ho1, hb1⟩
  clear ho1 hb1
  go_loopw [7, 20] (fun cv i wr => ∃ (k cn : Nat) (outs : List Nat), Hid (AddI xs ys n1 k cn outs ∧ Own .u64 41 w.heap.size wr A1 n1 c1 outs ∧ Below w.heap.size w wr) ∧ cv = .int .u64 cn ∧ i = .int .i64 k) (fun _ i _ => n1 - (intOf i).toNat)
  case atStart => exact ⟨0, 0, xs, ⟨⟨Nat.zero_le _, Nat.zero_le _, HX.out, H.out.len, rfl, by simp [val]⟩, HO.out.1, HO.out.2⟩, rfl, rfl⟩
  case round =>
    obtain ⟨k, cn, outs, hI, rfl, rfl⟩ := hrel
    have hk : k ≤ n1 := hI.out.1.1
    by_cases hlt : k < n1
    · by_cases hbr : m ≤ k ∧ cn = 0
      · obtain ⟨hb1, hb2⟩ := hbr
        subst hb2
        go_wp2
        go_ret2
        obtain ⟨e1, e2⟩ := hI.out.1.done HX.out H.out.len (by rw [H2.out.len]; exact hb1) (.inr rfl)
        refine ⟨_, _, _, ?_, by rw [← HZ.out, ← e1]; exact hI.out.2.1, hI.out.2.2⟩
        rw [← HB.out, ← e2]
        rfl
      · obtain ⟨g, hg, hgB, hgs⟩ := hI.out.2.1.form (by omega)
        subst hg
        have hcell := hI.out.2.1.cell hlt
        have hfr := hI.out.2.1.frozen (i := k)
        have R1 := Lib.hid (H.out.below hI.out.2.2)
        have R2 := Lib.hid (H2.out.below hI.out.2.2)
        obtain ⟨b, off, e, hb, hca⟩ := R1.out.at hlt
        subst e
        have B1 := Lib.hid (HX.out.nth W_pos k)
        have B2 := Lib.hid (HY.out.nth W_pos k)
        have B3 : Hid (cn < W) := by show cn < W; have := hI.out.1.2.1; rw [W_eq]; omega
        have i1 : (0 : Int) ≤ (k : Int) := by omega
        have i2 : (k : Int) < (n1 : Int) := by omega
        have hca' : ∀ w', Grow (some g) wr.drew w' → w'.cell? ⟨b, off + k, none⟩ = some (.int .u64 ((nth xs k : Nat) : Int)) := fun w' h => h.cell hca (by simp; have := H.out.lt hlt; omega)
        have hN := HN.out
        by_cases hmk : m ≤ k
        · have hcn : ((cn : Int) == 0) = false := by rw [beq_eq_false_iff_ne]; omega
          clear hbr
          go_wp2
          refine wp_region_grow (some g) [(true, 0), (true, 1), (true, 2), (true, 3), (true, 4), (true, 5), (true, 6), (true, 7), (true, 9), (false, 8), (false, 10), (true, 11), (true, 12), (true, 13), (true, 14), (false, 15), (true, 16)] (by kernel_rfl) (by kernel_rfl) ?_
          repeat (refine ord_pas (by rfl) (fun K hK => ?_); go_simp; refine hK _ _ (fun w' hw' => (by first | (go_simp; done) | (go_simp; intro hh; cases hh))) ?_; clear hK K)
          (refine ord_call (by rfl) (fun K hK => ?_); go_simp; refine hK _ _ ?_; clear hK K)
          refine (at_any A2 m c2 k ys _ R2.out.drew rfl HM.out).mono ?_
          rintro e w' ⟨rfl, rfl⟩
          refine ⟨_, rfl, Grow.refl _ _, ?_⟩
          (refine ord_norm (fun K hK => ?_); go_simp; refine hK _ ?_; clear hK K)
          (refine ord_call (by rfl) (fun K hK => ?_); go_simp; refine hK _ _ ?_; clear hK K)
          refine (addW_any (nth xs k) (nth ys k) cn _ B1.out B2.out B3.out rfl rfl rfl).mono ?_
          rintro e w' ⟨rfl, rfl⟩
          refine ⟨_, rfl, Grow.refl _ _, ?_⟩
          (refine ord_norm (fun K hK => ?_); go_simp; refine hK _ ?_; clear hK K)
          repeat (refine ord_pas (by rfl) (fun K hK => ?_); go_simp; refine hK _ _ (fun w' hw' => (by first | (go_simp; done) | (go_simp; intro hh; cases hh))) ?_; clear hK K)
          (refine ord_act (by rfl) (fun K hK => ?_); go_simp)
          refine hK _ _ ⟨Grow.set rfl _, ?_⟩
          clear hK K
          clear hca'
          repeat (refine ord_pas (by rfl) (fun K hK => ?_); go_simp; refine hK _ _ (fun w' hw' => (by first | (go_simp; done) | (go_simp; intro hh; cases hh))) ?_; clear hK K)
          refine ord_nil ?_
          go_wp2
          go_roundw
          case rel =>
            refine ⟨k + 1, _, _, ⟨hI.out.1.step HX.out HY.out hlt, hI.out.2.1.drew.stored, hI.out.2.2.drew.setCell hgB _⟩, rfl, by go_num⟩
          case measure => simp [intOf]; omega
        · clear hbr
          go_wp2
          refine wp_region_grow (some g) [(true, 0), (true, 1), (true, 2), (true, 3), (true, 4), (true, 5), (true, 6), (true, 7), (true, 9), (false, 8), (false, 10), (true, 11), (true, 12), (true, 13), (true, 14), (false, 15), (true, 16)] (by kernel_rfl) (by kernel_rfl) ?_
          repeat (refine ord_pas (by rfl) (fun K hK => ?_); go_simp; refine hK _ _ (fun w' hw' => (by first | (go_simp; done) | (go_simp; intro hh; cases hh))) ?_; clear hK K)
          (refine ord_call (by rfl) (fun K hK => ?_); go_simp; refine hK _ _ ?_; clear hK K)
          refine (at_any A2 m c2 k ys _ R2.out.drew rfl HM.out).mono ?_
          rintro e w' ⟨rfl, rfl⟩
          refine ⟨_, rfl, Grow.refl _ _, ?_⟩
          (refine ord_norm (fun K hK => ?_); go_simp; refine hK _ ?_; clear hK K)
          (refine ord_call (by rfl) (fun K hK => ?_); go_simp; refine hK _ _ ?_; clear hK K)
          refine (addW_any (nth xs k) (nth ys k) cn _ B1.out B2.out B3.out rfl rfl rfl).mono ?_
          rintro e w' ⟨rfl, rfl⟩
          refine ⟨_, rfl, Grow.refl _ _, ?_⟩
          (refine ord_norm (fun K hK => ?_); go_simp; refine hK _ ?_; clear hK K)
          repeat (refine ord_pas (by rfl) (fun K hK => ?_); go_simp; refine hK _ _ (fun w' hw' => (by first | (go_simp; done) | (go_simp; intro hh; cases hh))) ?_; clear hK K)
          (refine ord_act (by rfl) (fun K hK => ?_); go_simp)
          refine hK _ _ ⟨Grow.set rfl _, ?_⟩
          clear hK K
          clear hca'
          repeat (refine ord_pas (by rfl) (fun K hK => ?_); go_simp; refine hK _ _ (fun w' hw' => (by first | (go_simp; done) | (go_simp; intro hh; cases hh))) ?_; clear hK K)
          refine ord_nil ?_
          go_wp2
          go_roundw
          case rel =>
            refine ⟨k + 1, _, _, ⟨hI.out.1.step HX.out HY.out hlt, hI.out.2.1.drew.stored, hI.out.2.2.drew.setCell hgB _⟩, rfl, by go_num⟩
          case measure => simp [intOf]; omega
    · obtain rfl : k = n1 := by omega
      go_wp2
      go_ret2
      obtain ⟨e1, e2⟩ := hI.out.1.done HX.out H.out.len (by rw [H2.out.len]; omega) (.inl rfl)
      refine ⟨_, _, _, ?_, by rw [← HZ.out, ← e1]; exact hI.out.2.1, hI.out.2.2⟩
      rw [← HB.out, ← e2]
      rfl

theorem ladd_any (A A2 : Option Addr) (n c m c2 : Nat) (xs ys : List Nat) (w : World) (h : Rd .u64 w A n c xs) (h2 : Rd .u64 w A2 m c2 ys) (hx : All W xs) (hy : All W ys) (hn : n ≤ 1099511627776) (hm : m ≤ 1099511627776) :
    Calls Tryz.prog 142 #[.slice A n c, .slice A2 m c2] w (Gives2 .u64 41 w (wds W (max n m) (val W xs + val W ys)) (.int .u64 (((val W xs + val W ys) / W ^ (max n m) : Nat) : Int))) := by
  by_cases hnm : m ≤ n
  · rw [Nat.max_eq_left hnm]
    exact ladd_ge A A2 n c m c2 xs ys w h h2 hx hy hn hnm
  · rw [Nat.max_eq_right (by omega), Nat.add_comm (val W xs)]
    exact ladd_lt A2 A m c2 n c ys xs w h2 h hy hx hm (by omega)
end Go.Proofs.YtamfhmmcnlollaaGreat
