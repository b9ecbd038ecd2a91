/-
  LimbMemory.
-/
import Derived.Test.YtfpogghlcodncaaDoorLimW
import Derived.Test.YtfpogghlcodncaaDoorLimA
namespace Go.Proofs.YtfpogghlcodncaaDoor
open Go.RowKit
set_option linter.unusedVariables false

theorem nth_mark71 {xs : List Nat} {n x y : Nat} (h : xs.length = n) : nth (xs ++ [x, y]) n = x := by
  subst h; simp [nth]
theorem nth_mark72 {xs : List Nat} {n x y : Nat} (h : xs.length = n) : nth (xs ++ [x, y]) (n + 1) = y := by
  subst h; simp [nth]
theorem KB.below0 {w w' : World} (h : KB w.heap.size w.drew w') : Below w.heap.size w w' := ⟨h.1.1, h.1.2.1, h.1.2.2, h.2.1, fun i hi => h.2.2 i hi hi⟩
theorem At.growB {w : World} {p : Addr} {v : Value} (h : At w p v) : ∀ w', KB w.heap.size w.drew w' → w'.cell? p = some v := fun w' g => (g.cell (p := p) h.2 h.2).trans h.1
set_option maxHeartbeats 16000000 in
set_option maxRecDepth 100000 in
theorem limbMemory_any {x y z c n ca m cb : Nat} {N : Int} {A B : Option Addr} {xs ys : List Nat} {w : World} (ht : TZ w) (h : Rd .u64 w A n ca xs) (h' : Rd .u64 w B m cb ys) (ha : All W xs) (hb : All W ys) (hx : x < W) (hc : c < W) (hn : n ≤ 1048576) (hm : m ≤ 1048576) :
    Calls Tryd.prog 3 #[.agg #[.int .u64 (x : Int), .int .u64 (y : Int), .int .u64 (z : Int), .int .u64 (c : Int), .slice A n ca, .slice B m cb, .int .i64 N]] w (Keeps (.bool true) w) := by
  have H := Lib.hid h
  have H' := Lib.hid h'
  have HA := Lib.hid ha
  have HB := Lib.hid hb
  have HT := Lib.hid ht
  have HX := Lib.hid (And.intro hx hc)
  clear h h' ha hb ht hx hc
  have HES := Lib.hid elTT
  go_enter Tryd.func3, Tryd.ntmps3
  go_wp2_with fail
  refine (fixed_any _).mono ?_
  rintro e w1 ⟨rfl, hb1⟩
  have HA_ar := Lib.hid ((H.out.below ((Below.refl _ _).alloc (Nat.le_refl _) _)).below hb1)
  go_wp2_with fail
  have e_f4 := ((At.box (i := 4) _ _ rfl).below hb1).1
  have g_f4 := At.growB ((At.box (i := 4) _ _ rfl).below hb1)
  refine wp_region_fltRR (KB (w1).heap.size) (KC (22) (w1).heap.size n (n + 2) xs) (fun _ _ h => h.2.1) (KB.refl _) (KB.trans _) KC.refl KC.trans (fun _ _ h => KC.kb h) [(0, 0), (0, 1), (0, 2), (0, 3), (0, 5), (0, 6), (2, 8), (1, 4), (1, 7), (4, 8), (3, 9), (0, 10)] (by kernel_rfl) (by kernel_rfl) ?_
  repeat (refine flt_pas (by rfl) (fun K hK => ?_); go_simp; refine hK _ _ (fun w' hw' => (by first | (go_simp; done) | (go_simp; intro hh; cases hh))) ?_; clear hK K)
  refine flt_litK (m := 2) [71, 72] (by rcases n with _ | n <;> simp) (by rfl) rfl (fun w1 => (by go_simp; rfl)) rfl (by omega) (Nat.le_refl _) ?_
  refine flt_makeK (.const (.int .i64 0)) (.tmp 24) (by rfl) rfl rfl elW rfl rfl (by rw [IntKind.wrap_i64]; omega) (by omega) (by omega) (Nat.le_refl _) (fun b_ar wa_2_ar wb_2_ar hk1 hk2 hz3 => ?_)
  (refine flt_norm (fun K hK => ?_); go_simp; refine hK _ ?_; clear hK K)
  refine flt_roomK (.tmp 25) (.tmp 27) (by rfl) rfl rfl elW rfl rfl hz3 (fun w' hw' => HA_ar.out.below (KB.below0 (KB.trans _ _ _ _ (KB.trans _ _ _ _ hk1.kb hk2.kb) hw'))) (by omega) (by omega) (Nat.le_trans hk1.2.1 hk2.2.1) (fun wc_2_ar wd_2_ar hk3 hk4 ow3 => ?_)
  (refine flt_norm (fun K hK => ?_); go_simp; refine hK _ ?_; clear hK K)
  refine flt_land (by rfl) (fun v_2_ar we_2_ar hk5 hF3 => ?_)
  obtain ⟨Al_2_ar, rfl, o3l⟩ := hF3
  (refine flt_norm (fun K hK => ?_); go_simp; refine hK _ ?_; clear hK K)
  have hb5 := KB.below0 (KB.trans _ _ _ _ (KB.trans _ _ _ _ (KB.trans _ _ _ _ (KB.trans _ _ _ _ hk1.kb hk2.kb) hk3.kb) hk4.kb) hk5.kb)
  refine flt_appX (.tmp 28) (.tmp 29) (by rfl) rfl rfl elW rfl rfl (ow3.kc hk5) o3l.rd (by omega) hb5.size (fun w' h => KB.of_le h (Nat.le_refl _)) (fun A_ar c_ar wf_2_ar o_ar hb6 => ?_)
  have hc_ar := hb5.trans hb6
  clear hk1 hk2 hk3 hk4 hk5 hz3 ow3 o3l hb5 hb6 HA_ar g_f4 e_f4
  repeat (refine flt_pas (by rfl) (fun K hK => ?_); go_simp; refine hK _ _ (fun w' hw' => (by first | (go_simp; done) | (go_simp; intro hh; cases hh))) ?_; clear hK K)
  refine flt_nil ?_
  have HA_br := Lib.hid (((H'.out.below ((Below.refl _ _).alloc (Nat.le_refl _) _)).below hb1).below hc_ar)
  go_wp2_with fail
  have e_f5 := (((At.box (i := 5) _ _ rfl).below hb1).below hc_ar).1
  have g_f5 := At.growB (((At.box (i := 5) _ _ rfl).below hb1).below hc_ar)
  refine wp_region_fltRR (KB (wf_2_ar).heap.size) (KC (22) (wf_2_ar).heap.size m (m + 2) ys) (fun _ _ h => h.2.1) (KB.refl _) (KB.trans _) KC.refl KC.trans (fun _ _ h => KC.kb h) [(0, 0), (0, 1), (0, 2), (0, 3), (0, 5), (0, 6), (2, 8), (1, 4), (1, 7), (4, 8), (3, 9), (0, 10)] (by kernel_rfl) (by kernel_rfl) ?_
  repeat (refine flt_pas (by rfl) (fun K hK => ?_); go_simp; refine hK _ _ (fun w' hw' => (by first | (go_simp; done) | (go_simp; intro hh; cases hh))) ?_; clear hK K)
  refine flt_litK (m := 2) [73, 74] (by rcases m with _ | m <;> simp) (by rfl) rfl (fun w1 => (by go_simp; rfl)) rfl (by omega) (Nat.le_refl _) ?_
  refine flt_makeK (.const (.int .i64 0)) (.tmp 34) (by rfl) rfl rfl elW rfl rfl (by rw [IntKind.wrap_i64]; omega) (by omega) (by omega) (Nat.le_refl _) (fun b_br wa_3_br wb_3_br hk1 hk2 hz3 => ?_)
  (refine flt_norm (fun K hK => ?_); go_simp; refine hK _ ?_; clear hK K)
  refine flt_roomK (.tmp 35) (.tmp 37) (by rfl) rfl rfl elW rfl rfl hz3 (fun w' hw' => HA_br.out.below (KB.below0 (KB.trans _ _ _ _ (KB.trans _ _ _ _ hk1.kb hk2.kb) hw'))) (by omega) (by omega) (Nat.le_trans hk1.2.1 hk2.2.1) (fun wc_3_br wd_3_br hk3 hk4 ow3 => ?_)
  (refine flt_norm (fun K hK => ?_); go_simp; refine hK _ ?_; clear hK K)
  refine flt_land (by rfl) (fun v_3_br we_3_br hk5 hF3 => ?_)
  obtain ⟨Al_3_br, rfl, o3l⟩ := hF3
  (refine flt_norm (fun K hK => ?_); go_simp; refine hK _ ?_; clear hK K)
  have hb5 := KB.below0 (KB.trans _ _ _ _ (KB.trans _ _ _ _ (KB.trans _ _ _ _ (KB.trans _ _ _ _ hk1.kb hk2.kb) hk3.kb) hk4.kb) hk5.kb)
  refine flt_appX (.tmp 38) (.tmp 39) (by rfl) rfl rfl elW rfl rfl (ow3.kc hk5) o3l.rd (by omega) hb5.size (fun w' h => KB.of_le h (Nat.le_refl _)) (fun A_br c_br wf_3_br o_br hb6 => ?_)
  have hc_br := hb5.trans hb6
  clear hk1 hk2 hk3 hk4 hk5 hz3 ow3 o3l hb5 hb6 HA_br g_f5 e_f5
  repeat (refine flt_pas (by rfl) (fun K hK => ?_); go_simp; refine hK _ _ (fun w' hw' => (by first | (go_simp; done) | (go_simp; intro hh; cases hh))) ?_; clear hK K)
  refine flt_nil ?_
  obtain ⟨ga, ega, hga1, hga2⟩ := o_ar.form (by omega)
  obtain ⟨gb, egb, hgb1, hgb2⟩ := o_br.form (by omega)
  subst ega egb
  have l3 : n + 2 ≤ c_ar := o_ar.cap.1
  have l4 : m + 2 ≤ c_br := o_br.cap.1
  have s3 : (n : Int) ≤ (c_ar : Int) := by omega
  have s4 : (m : Int) ≤ (c_br : Int) := by omega
  go_wp2_with fail
  have e_f4 := ((((At.box (i := 4) _ _ rfl).below hb1).below hc_ar).below hc_br).1
  have g_f4 := At.grow ((((At.box (i := 4) _ _ rfl).below hb1).below hc_ar).below hc_br)
  have e_f5 := ((((At.box (i := 5) _ _ rfl).below hb1).below hc_ar).below hc_br).1
  have g_f5 := At.grow ((((At.box (i := 5) _ _ rfl).below hb1).below hc_ar).below hc_br)
  refine wp_region_grow none [(true, 0), (true, 1), (true, 2), (true, 3), (true, 4), (true, 5), (true, 6), (true, 7), (true, 8), (true, 9), (true, 10), (true, 11)] (by kernel_rfl) (by kernel_rfl) ?_
  repeat (refine ord_pas (by rfl) (fun K hK => ?_); go_simp; refine hK _ _ (fun w' hw' => (by first | (go_simp; done) | (go_simp; intro hh; cases hh))) ?_; clear hK K)
  repeat (refine ord_pas (by rfl) (fun K hK => ?_); go_simp; refine hK _ _ (fun w' hw' => (by first | (go_simp; done) | (go_simp; intro hh; cases hh))) ?_; clear hK K)
  refine ord_nil ?_
  clear g_f4 e_f4 g_f5 e_f5
  have x0 := (((((At.box (i := 0) _ _ rfl).below hb1).below hc_ar).below hc_br).below (Below.refl _ _).drew).1
  have x1 := (((((At.box (i := 1) _ _ rfl).below hb1).below hc_ar).below hc_br).below (Below.refl _ _).drew).1
  have x2 := (((((At.box (i := 2) _ _ rfl).below hb1).below hc_ar).below hc_br).below (Below.refl _ _).drew).1
  have x3 := (((((At.box (i := 3) _ _ rfl).below hb1).below hc_ar).below hc_br).below (Below.refl _ _).drew).1
  have x4 := (((((At.box (i := 4) _ _ rfl).below hb1).below hc_ar).below hc_br).below (Below.refl _ _).drew).1
  have x5 := (((((At.box (i := 5) _ _ rfl).below hb1).below hc_ar).below hc_br).below (Below.refl _ _).drew).1
  have x6 := (((((At.box (i := 6) _ _ rfl).below hb1).below hc_ar).below hc_br).below (Below.refl _ _).drew).1
  obtain ⟨X1, ns1, hM1, T1, W1⟩ := lim_both (n := n) (m := m) (N := N) HA.out HB.out HX.out.1 HX.out.2 hn hm H.out.len
  obtain ⟨X2, ns2, hM2, T2, W2⟩ := lim_both (n := m) (m := n) (N := N) HB.out HA.out HX.out.1 HX.out.2 hm hn H'.out.len
  go_wp2_with fail
  clear x0 x1 x2 x3 x4 x5 x6
  refine (W1 (((((H.out.below ((Below.refl _ _).alloc (Nat.le_refl _) _)).below hb1).below hc_ar).below hc_br).below (Below.refl _ _).drew) (((((H'.out.below ((Below.refl _ _).alloc (Nat.le_refl _) _)).below hb1).below hc_ar).below hc_br).below (Below.refl _ _).drew)).mono ?_
  rintro e wv6 ⟨A6, q6, ss6, An6, qn6, rfl, hrow6, hns6, hq6⟩
  have HBS := Lib.hid (bt (bt (bt (bt (bt ((Below.refl _ _).alloc (Nat.le_refl _) _) hb1) hc_ar) hc_br) (Below.refl _ _).drew) hq6)
  have G0 := Lib.hid ((((((At.box (i := 0) _ _ rfl).below hb1).below hc_ar).below hc_br).below (Below.refl _ _).drew).below hq6)
  have G1 := Lib.hid ((((((At.box (i := 1) _ _ rfl).below hb1).below hc_ar).below hc_br).below (Below.refl _ _).drew).below hq6)
  have G2 := Lib.hid ((((((At.box (i := 2) _ _ rfl).below hb1).below hc_ar).below hc_br).below (Below.refl _ _).drew).below hq6)
  have G3 := Lib.hid ((((((At.box (i := 3) _ _ rfl).below hb1).below hc_ar).below hc_br).below (Below.refl _ _).drew).below hq6)
  have G4 := Lib.hid ((((((At.box (i := 4) _ _ rfl).below hb1).below hc_ar).below hc_br).below (Below.refl _ _).drew).below hq6)
  have G5 := Lib.hid ((((((At.box (i := 5) _ _ rfl).below hb1).below hc_ar).below hc_br).below (Below.refl _ _).drew).below hq6)
  have G6 := Lib.hid ((((((At.box (i := 6) _ _ rfl).below hb1).below hc_ar).below hc_br).below (Below.refl _ _).drew).below hq6)
  have GA := Lib.hid ((((o_ar.mono (bt ((Below.refl _ _).alloc (Nat.le_refl _) _) hb1).size).below hc_br).below (Below.refl _ _).drew).below hq6)
  have GB := Lib.hid (((o_br.mono (bt (bt ((Below.refl _ _).alloc (Nat.le_refl _) _) hb1) hc_ar).size).below (Below.refl _ _).drew).below hq6)
  have GT := Lib.hid ((((((HT.out.below ((Below.refl _ _).alloc (Nat.le_refl _) _)).below hb1).below hc_ar).below hc_br).below (Below.refl _ _).drew).below hq6)
  have x0 := ((((((At.box (i := 0) _ _ rfl).below hb1).below hc_ar).below hc_br).below (Below.refl _ _).drew).below hq6).1
  have x1 := ((((((At.box (i := 1) _ _ rfl).below hb1).below hc_ar).below hc_br).below (Below.refl _ _).drew).below hq6).1
  have x2 := ((((((At.box (i := 2) _ _ rfl).below hb1).below hc_ar).below hc_br).below (Below.refl _ _).drew).below hq6).1
  have x3 := ((((((At.box (i := 3) _ _ rfl).below hb1).below hc_ar).below hc_br).below (Below.refl _ _).drew).below hq6).1
  have x4 := ((((((At.box (i := 4) _ _ rfl).below hb1).below hc_ar).below hc_br).below (Below.refl _ _).drew).below hq6).1
  have x5 := ((((((At.box (i := 5) _ _ rfl).below hb1).below hc_ar).below hc_br).below (Below.refl _ _).drew).below hq6).1
  have x6 := ((((((At.box (i := 6) _ _ rfl).below hb1).below hc_ar).below hc_br).below (Below.refl _ _).drew).below hq6).1
  go_wp2_with fail
  clear x0 x1 x2 x3 x4 x5 x6
  have RA := ((((o_ar.rd.below hc_br).below (Below.refl _ _).drew).below hq6)).upto (j := n) (by omega)
  rw [List.take_left' H.out.len] at RA
  have RB := (((o_br.rd.below (Below.refl _ _).drew).below hq6)).upto (j := m) (by omega)
  rw [List.take_left' H'.out.len] at RB
  refine (T1 ((((((HT.out.below ((Below.refl _ _).alloc (Nat.le_refl _) _)).below hb1).below hc_ar).below hc_br).below (Below.refl _ _).drew).below hq6) RA RB).mono ?_
  rintro e wv7 ⟨A7, q7, ss7, An7, qn7, rfl, hrow7, hns7, hq7, hch7⟩
  have x0 := (((((((At.box (i := 0) _ _ rfl).below hb1).below hc_ar).below hc_br).below (Below.refl _ _).drew).below hq6).below hq7).1
  have x1 := (((((((At.box (i := 1) _ _ rfl).below hb1).below hc_ar).below hc_br).below (Below.refl _ _).drew).below hq6).below hq7).1
  have x2 := (((((((At.box (i := 2) _ _ rfl).below hb1).below hc_ar).below hc_br).below (Below.refl _ _).drew).below hq6).below hq7).1
  have x3 := (((((((At.box (i := 3) _ _ rfl).below hb1).below hc_ar).below hc_br).below (Below.refl _ _).drew).below hq6).below hq7).1
  have x4 := (((((((At.box (i := 4) _ _ rfl).below hb1).below hc_ar).below hc_br).below (Below.refl _ _).drew).below hq6).below hq7).1
  have x5 := (((((((At.box (i := 5) _ _ rfl).below hb1).below hc_ar).below hc_br).below (Below.refl _ _).drew).below hq6).below hq7).1
  have x6 := (((((((At.box (i := 6) _ _ rfl).below hb1).below hc_ar).below hc_br).below (Below.refl _ _).drew).below hq6).below hq7).1
  go_wp2_with fail
  clear x0 x1 x2 x3 x4 x5 x6
  refine (T1 (((((((HT.out.below ((Below.refl _ _).alloc (Nat.le_refl _) _)).below hb1).below hc_ar).below hc_br).below (Below.refl _ _).drew).below hq6).below hq7) (RA.below hq7) (RB.below hq7)).mono ?_
  rintro e wv8 ⟨A8, q8, ss8, An8, qn8, rfl, hrow8, hns8, hq8, hch8⟩
  have x0 := ((((((((At.box (i := 0) _ _ rfl).below hb1).below hc_ar).below hc_br).below (Below.refl _ _).drew).below hq6).below hq7).below hq8).1
  have x1 := ((((((((At.box (i := 1) _ _ rfl).below hb1).below hc_ar).below hc_br).below (Below.refl _ _).drew).below hq6).below hq7).below hq8).1
  have x2 := ((((((((At.box (i := 2) _ _ rfl).below hb1).below hc_ar).below hc_br).below (Below.refl _ _).drew).below hq6).below hq7).below hq8).1
  have x3 := ((((((((At.box (i := 3) _ _ rfl).below hb1).below hc_ar).below hc_br).below (Below.refl _ _).drew).below hq6).below hq7).below hq8).1
  have x4 := ((((((((At.box (i := 4) _ _ rfl).below hb1).below hc_ar).below hc_br).below (Below.refl _ _).drew).below hq6).below hq7).below hq8).1
  have x5 := ((((((((At.box (i := 5) _ _ rfl).below hb1).below hc_ar).below hc_br).below (Below.refl _ _).drew).below hq6).below hq7).below hq8).1
  have x6 := ((((((((At.box (i := 6) _ _ rfl).below hb1).below hc_ar).below hc_br).below (Below.refl _ _).drew).below hq6).below hq7).below hq8).1
  go_wp2_with fail
  clear x0 x1 x2 x3 x4 x5 x6
  refine (T2 ((((((((HT.out.below ((Below.refl _ _).alloc (Nat.le_refl _) _)).below hb1).below hc_ar).below hc_br).below (Below.refl _ _).drew).below hq6).below hq7).below hq8) ((RB.below hq7).below hq8) ((RA.below hq7).below hq8)).mono ?_
  rintro e wv9 ⟨A9, q9, ss9, An9, qn9, rfl, hrow9, hns9, hq9, hch9⟩
  have x0 := (((((((((At.box (i := 0) _ _ rfl).below hb1).below hc_ar).below hc_br).below (Below.refl _ _).drew).below hq6).below hq7).below hq8).below hq9).1
  have x1 := (((((((((At.box (i := 1) _ _ rfl).below hb1).below hc_ar).below hc_br).below (Below.refl _ _).drew).below hq6).below hq7).below hq8).below hq9).1
  have x2 := (((((((((At.box (i := 2) _ _ rfl).below hb1).below hc_ar).below hc_br).below (Below.refl _ _).drew).below hq6).below hq7).below hq8).below hq9).1
  have x3 := (((((((((At.box (i := 3) _ _ rfl).below hb1).below hc_ar).below hc_br).below (Below.refl _ _).drew).below hq6).below hq7).below hq8).below hq9).1
  have x4 := (((((((((At.box (i := 4) _ _ rfl).below hb1).below hc_ar).below hc_br).below (Below.refl _ _).drew).below hq6).below hq7).below hq8).below hq9).1
  have x5 := (((((((((At.box (i := 5) _ _ rfl).below hb1).below hc_ar).below hc_br).below (Below.refl _ _).drew).below hq6).below hq7).below hq8).below hq9).1
  have x6 := (((((((((At.box (i := 6) _ _ rfl).below hb1).below hc_ar).below hc_br).below (Below.refl _ _).drew).below hq6).below hq7).below hq8).below hq9).1
  go_wp2_with fail
  clear x0 x1 x2 x3 x4 x5 x6
  refine (W2 (((((((((H'.out.below ((Below.refl _ _).alloc (Nat.le_refl _) _)).below hb1).below hc_ar).below hc_br).below (Below.refl _ _).drew).below hq6).below hq7).below hq8).below hq9) (((((((((H.out.below ((Below.refl _ _).alloc (Nat.le_refl _) _)).below hb1).below hc_ar).below hc_br).below (Below.refl _ _).drew).below hq6).below hq7).below hq8).below hq9)).mono ?_
  rintro e wv10 ⟨A10, q10, ss10, An10, qn10, rfl, hrow10, hns10, hq10⟩
  go_wp2_with fail
  refine (alike_yes (((hrow7.1.below hq8).below hq9).below hq10).rd ((((hrow6.1.below hq7).below hq8).below hq9).below hq10).rd (((hrow7.2.below hq8).below hq9).below hq10).rda ((((hrow6.2.below hq7).below hq8).below hq9).below hq10).rda ((((hrow7.2.below hq8).below hq9).below hq10).lens (fun i => Nat.le_trans (hM1 i) (by omega))) (by omega) (((hns7.below hq8).below hq9).below hq10) ((((hns6.below hq7).below hq8).below hq9).below hq10) (by omega)).mono ?_
  rintro e w4 ⟨rfl, hb4⟩
  go_wp2_with fail
  refine (alike_yes (((hrow8.1.below hq9).below hq10).below hb4).rd (((((hrow6.1.below hq7).below hq8).below hq9).below hq10).below hb4).rd (((hrow8.2.below hq9).below hq10).below hb4).rda (((((hrow6.2.below hq7).below hq8).below hq9).below hq10).below hb4).rda ((((hrow8.2.below hq9).below hq10).below hb4).lens (fun i => Nat.le_trans (hM1 i) (by omega))) (by omega) (((hns8.below hq9).below hq10).below hb4) (((((hns6.below hq7).below hq8).below hq9).below hq10).below hb4) (by omega)).mono ?_
  rintro e w5 ⟨rfl, hb5⟩
  go_wp2_with fail
  refine (alike_yes (((hrow9.1.below hq10).below hb4).below hb5).rd ((hrow10.1.below hb4).below hb5).rd (((hrow9.2.below hq10).below hb4).below hb5).rda ((hrow10.2.below hb4).below hb5).rda ((((hrow9.2.below hq10).below hb4).below hb5).lens (fun i => Nat.le_trans (hM2 i) (by omega))) (by omega) (((hns9.below hq10).below hb4).below hb5) ((hns10.below hb4).below hb5) (by omega)).mono ?_
  rintro e w6 ⟨rfl, hb6⟩
  have x4 := (((((((((((((At.box (i := 4) _ _ rfl).below hb1).below hc_ar).below hc_br).below (Below.refl _ _).drew).below hq6).below hq7).below hq8).below hq9).below hq10).below hb4).below hb5).below hb6).1
  go_wp2_with fail
  refine (same1_yes (((((((RA.below hq7).below hq8).below hq9).below hq10).below hb4).below hb5).below hb6) (((((((((((((H.out.below ((Below.refl _ _).alloc (Nat.le_refl _) _)).below hb1).below hc_ar).below hc_br).below (Below.refl _ _).drew).below hq6).below hq7).below hq8).below hq9).below hq10).below hb4).below hb5).below hb6) rfl (by omega)).mono ?_
  rintro e w7 ⟨rfl, hb7⟩
  clear x4
  have x5 := ((((((((((((((At.box (i := 5) _ _ rfl).below hb1).below hc_ar).below hc_br).below (Below.refl _ _).drew).below hq6).below hq7).below hq8).below hq9).below hq10).below hb4).below hb5).below hb6).below hb7).1
  go_wp2_with fail
  refine (same1_yes ((((((((RB.below hq7).below hq8).below hq9).below hq10).below hb4).below hb5).below hb6).below hb7) ((((((((((((((H'.out.below ((Below.refl _ _).alloc (Nat.le_refl _) _)).below hb1).below hc_ar).below hc_br).below (Below.refl _ _).drew).below hq6).below hq7).below hq8).below hq9).below hq10).below hb4).below hb5).below hb6).below hb7) rfl (by omega)).mono ?_
  rintro e w8 ⟨rfl, hb8⟩
  clear x5
  have q1 := nth_mark71 (x := 71) (y := 72) H.out.len
  have q2 := nth_mark72 (x := 71) (y := 72) H.out.len
  have q3 := nth_mark71 (x := 73) (y := 74) H'.out.len
  have q4 := nth_mark72 (x := 73) (y := 74) H'.out.len
  have y1 := (((((((((((((o_ar.below hc_br).below (Below.refl _ _).drew).below hq6).below hq7).below hq8).below hq9).below hq10).below hb4).below hb5).below hb6).below hb7).below hb8)).cell (i := n) (by omega)
  have y2 := (((((((((((((o_ar.below hc_br).below (Below.refl _ _).drew).below hq6).below hq7).below hq8).below hq9).below hq10).below hb4).below hb5).below hb6).below hb7).below hb8)).cell (i := n + 1) (by omega)
  have y3 := ((((((((((((o_br.below (Below.refl _ _).drew).below hq6).below hq7).below hq8).below hq9).below hq10).below hb4).below hb5).below hb6).below hb7).below hb8)).cell (i := m) (by omega)
  have y4 := ((((((((((((o_br.below (Below.refl _ _).drew).below hq6).below hq7).below hq8).below hq9).below hq10).below hb4).below hb5).below hb6).below hb7).below hb8)).cell (i := m + 1) (by omega)
  rw [q1] at y1
  rw [q2] at y2
  rw [q3] at y3
  rw [q4] at y4
  clear q1 q2 q3 q4
  have HQ7 := Lib.hid ((((((((hrow7.1.below hq8).below hq9).below hq10).below hb4).below hb5).below hb6).below hb7).below hb8).rd
  have HQ8 := Lib.hid (((((((hrow8.1.below hq9).below hq10).below hb4).below hb5).below hb6).below hb7).below hb8).rd
  have HQ9 := Lib.hid ((((((hrow9.1.below hq10).below hb4).below hb5).below hb6).below hb7).below hb8).rd
  have HBA : Hid (Below wv6.heap.size wv6 w8) := (bt (bt (bt (bt (bt (bt (bt (bt hq7 hq8) hq9) hq10) hb4) hb5) hb6) hb7) hb8)
  go_wp2_with (first
    | (at_builtin; (refine wpList_appVs rfl (.tmp 158) (.tmp 159) rfl HES.out (B := w8.heap.size) (vs := []) rfl rfl (RowV.litz w8 (Nat.le_refl _)) (HQ7.out.below (belowA _ _)) (shv_one _) (by omega) (by simp) (by simp) ?_); intro A_a1 c_a1 wa1 ha1 hba1 _; have K1 : Hid (RowV 23 w8.heap.size wa1 A_a1 8 c_a1 (ss7.map shv) ∧ Below w8.heap.size w8 wa1) := ⟨(by simpa using ha1), (belowA _ _).trans hba1⟩; clear ha1 hba1)
    | (at_builtin; (refine wpList_appVs rfl (.tmp 160) (.tmp 161) rfl HES.out (B := w8.heap.size) rfl rfl K1.out.1 (HQ8.out.below K1.out.2) (shv_one _) (by omega) (by simp) K1.out.2.size ?_); intro A_a2 c_a2 wa2 ha2 hba2 _; have K2 : Hid (RowV 23 w8.heap.size wa2 A_a2 16 c_a2 ((ss7 ++ ss8).map shv) ∧ Below w8.heap.size w8 wa2) := ⟨(by rw [List.map_append]; exact ha2), K1.out.2.trans hba2⟩; clear ha2 hba2)
    | (at_builtin; (refine wpList_appVs rfl (.tmp 162) (.tmp 163) rfl HES.out (B := w8.heap.size) rfl rfl K2.out.1 (HQ9.out.below K2.out.2) (shv_one _) (by omega) (by simp) K2.out.2.size ?_); intro A_a3 c_a3 wa3 ha3 hba3 _; have K3 : Hid (RowV 23 w8.heap.size wa3 A_a3 24 c_a3 ((ss7 ++ ss8 ++ ss9).map shv) ∧ Below w8.heap.size w8 wa3) := ⟨(by rw [List.map_append (l₂ := ss9)]; exact ha3), K2.out.2.trans hba3⟩; clear ha3 hba3))
  clear y1 y2 y3 y4
  have WS : Hid (wv6.heap.size ≤ wv7.heap.size ∧ wv7.heap.size ≤ wv8.heap.size ∧ wv8.heap.size ≤ wv9.heap.size ∧ wv9.heap.size ≤ wa3.heap.size) := by
    exact ⟨hq7.size, hq8.size, hq9.size, ((bt (bt (bt (bt (bt (bt hq10 hb4) hb5) hb6) hb7) hb8) K3.out.2)).size⟩
  have ELS : Hid (∃ F, Els 22 wv6.heap.size wa3 (ss7 ++ ss8 ++ ss9) F) := ⟨_, ((((((((((((hrow7.2.below hq8).below hq9).below hq10).below hb4).below hb5).below hb6).below hb7).below hb8).below K3.out.2).mono (Nat.le_refl _)).app (((((((((hrow8.2.below hq9).below hq10).below hb4).below hb5).below hb6).below hb7).below hb8).below K3.out.2).mono WS.out.1)).app ((((((((hrow9.2.below hq10).below hb4).below hb5).below hb6).below hb7).below hb8).below K3.out.2).mono (Nat.le_trans WS.out.1 WS.out.2.1)))⟩
  have HCH : Hid (Chain wv6.heap.size (ss7 ++ ss8 ++ ss9) wv9.heap.size) := (hch7.app hch8).app hch9
  have HLN : Hid (∀ (i : Nat) (s : Sh), (ss7 ++ ss8 ++ ss9)[i]? = some s → s.2.1 ≤ 67108864) := all_appa (all_appa (hrow7.2.lens hM1) (hrow8.2.lens hM1)) (hrow9.2.lens hM2)
  obtain ⟨FA, hFA⟩ := ELS.out
  have HFA := Lib.hid hFA
  clear hFA ELS
  have WZ : wv6.heap.size ≤ wa3.heap.size := by have := WS.out; omega
  refine (apart01L_any (B2 := wv6.heap.size) K3.out.1 HFA.out HCH.out.apt HLN.out (by omega) WZ).mono ?_
  rintro e wz ⟨rfl, hxz⟩
  have HY : Below wv6.heap.size wa3 wz := hxz.below (fun b hb => by
    rcases hb with hb | hb
    · exact (HCH.out.blk hb).1
    · omega) WZ
  have HZ : Hid (Below wv6.heap.size wv6 wz) := ((bt (bt (bt (bt (bt (bt (bt (bt (bt hq7 hq8) hq9) hq10) hb4) hb5) hb6) hb7) hb8) K3.out.2)).trans HY
  clear HY
  clear hxz
  have HB0 : Hid (Below w.heap.size w wz) := bt HBS.out HZ.out
  have F0 := Lib.hid (G0.out.below HZ.out)
  have F1 := Lib.hid (G1.out.below HZ.out)
  have F2 := Lib.hid (G2.out.below HZ.out)
  have F3 := Lib.hid (G3.out.below HZ.out)
  have F4 := Lib.hid (G4.out.below HZ.out)
  have F5 := Lib.hid (G5.out.below HZ.out)
  have F6 := Lib.hid (G6.out.below HZ.out)
  have FA := Lib.hid (GA.out.below HZ.out)
  have FB := Lib.hid (GB.out.below HZ.out)
  have FT := Lib.hid (GT.out.below HZ.out)
  have RA := (FA.out.rd).upto (j := n) (by omega)
  rw [List.take_left' H.out.len] at RA
  have RB := (FB.out.rd).upto (j := m) (by omega)
  rw [List.take_left' H'.out.len] at RB
  have x4 := F4.out.1
  go_wp2_with fail
  refine (same1_yes RA (H.out.below HB0.out) rfl (by omega)).mono ?_
  rintro e w9 ⟨rfl, hb9⟩
  clear x4
  have x5 := (F5.out.below hb9).1
  go_wp2_with fail
  refine (same1_yes (RB.below hb9) ((H'.out.below HB0.out).below hb9) rfl (by omega)).mono ?_
  rintro e w10 ⟨rfl, hb10⟩
  clear x5
  clear RA RB
  have OA := Lib.hid (FA.out.below (bt hb9 hb10))
  have OB := Lib.hid (FB.out.below (bt hb9 hb10))
  have E0 := Lib.hid ((F0.out.below hb9).below hb10)
  have E1 := Lib.hid ((F1.out.below hb9).below hb10)
  have E2 := Lib.hid ((F2.out.below hb9).below hb10)
  have E3 := Lib.hid ((F3.out.below hb9).below hb10)
  have E4 := Lib.hid ((F4.out.below hb9).below hb10)
  have E5 := Lib.hid ((F5.out.below hb9).below hb10)
  have E6 := Lib.hid ((F6.out.below hb9).below hb10)
  have HBL : Hid (Below w.heap.size w w10) := bt HB0.out (bt hb9 hb10)
  clear FA FB
  have hgw : w.heap.size < ga := by
    have h1 := hb1.size
    simp only [World.alloc, Array.size_push] at h1
    omega
  have hne : gb ≠ ga := by
    have h1 : ga < _ := hga2
    have h2 : _ ≤ gb := hgb1
    have h3 := Nat.lt_of_lt_of_le h1 h2
    omega
  have hgl0 : xs.length = n := H.out.len
  go_wp2_with fail
  go_loopw [17] (fun iv wr => ∃ (k : Nat) (gs : List Nat), Hid (Own .u64 22 w.heap.size wr (some ⟨ga, 0, none⟩) (n + 2) c_ar (gs ++ [71, 72]) ∧ gs.length = n ∧ All W gs ∧ Ex (fun j => j = ga) w10 wr) ∧ k ≤ n ∧ iv = .int .i64 (k : Int)) (fun iv _ => n - (intOf iv).toNat)
  case atStart => exact ⟨0, xs, ⟨OA.out, hgl0, HA.out, Ex.refl _ _⟩, Nat.zero_le _, rfl⟩
  case round =>
    obtain ⟨k, gs, hI, hk, rfl⟩ := hrel
    by_cases hlt : k < n
    · have hgl := hI.out.2.1
      have hc1 := hI.out.1.cell (i := k) (by omega)
      have hf1 := hI.out.1.frozen (i := k)
      generalize nth (gs ++ [71, 72]) k = d1 at hc1
      obtain ⟨e, he, heW⟩ := bits_u64a .xor (d1 : Int) 5
      have i1 : (0 : Int) ≤ (k : Int) := by omega
      have i2 : (k : Int) < (n : Int) := by omega
      have HN : Hid (Own .u64 22 w.heap.size (wr.setCell ⟨ga, k, none⟩ (.int .u64 (e : Int))) (some ⟨ga, 0, none⟩) (n + 2) c_ar (gs.set k e ++ [71, 72]) ∧ (gs.set k e).length = n ∧ All W (gs.set k e) ∧ Ex (fun j => j = ga) w10 (wr.setCell ⟨ga, k, none⟩ (.int .u64 (e : Int)))) := by
        refine ⟨?_, by rw [List.length_set]; exact hgl, hI.out.2.2.1.set heW k, hI.out.2.2.2.trans (Ex.setCell _ _ _ _ rfl)⟩
        have h1 := hI.out.1.stored (i := k) (x := e)
        rwa [List.set_append_left _ _ (by omega)] at h1
      clear hI hgl heW
      go_wp2
      go_roundw
      case rel => exact ⟨k + 1, _, HN, by omega, by go_num⟩
      case measure => simp [intOf]; omega
    · obtain rfl : k = n := by omega
      obtain ⟨wd, rfl⟩ : ∃ wd : World, wd = wr := ⟨_, rfl⟩
      have EXS := Lib.hid hI.out.2.2.2
      obtain ⟨X3, ns3, hM3, T3, W3⟩ := lim_both (n := k) (m := m) (N := N) hI.out.2.2.1 HB.out HX.out.1 HX.out.2 hn hm hI.out.2.1
      have HBD : Hid (Below w.heap.size w wd) := HBL.out.trans (EXS.out.below (fun j hj => by omega) HBL.out.size)
      have PB := Lib.hid (OB.out.ex EXS.out (fun a e hs => by cases e; exact hne hs))
      have D0 := Lib.hid (E0.out.ex EXS.out (by simp only; omega))
      have D1 := Lib.hid (E1.out.ex EXS.out (by simp only; omega))
      have D2 := Lib.hid (E2.out.ex EXS.out (by simp only; omega))
      have D3 := Lib.hid (E3.out.ex EXS.out (by simp only; omega))
      have D4 := Lib.hid (E4.out.ex EXS.out (by simp only; omega))
      have D5 := Lib.hid (E5.out.ex EXS.out (by simp only; omega))
      have D6 := Lib.hid (E6.out.ex EXS.out (by simp only; omega))
      have RA := (hI.out.1.rd).upto (j := k) (by omega)
      rw [List.take_left' hI.out.2.1] at RA
      have RB := (PB.out.rd).upto (j := m) (by omega)
      rw [List.take_left' H'.out.len] at RB
      have HRA := Lib.hid RA
      have HRB := Lib.hid RB
      clear RA RB hI EXS
      go_wp2_with fail
      refine (copiedC_any HRA.out (by omega)).mono ?_
      rintro e w11 ⟨A_nw, c_nw, rfl, o_nw, hb11⟩
      have x0 := (D0.out.below hb11).1
      have x1 := (D1.out.below hb11).1
      have x2 := (D2.out.below hb11).1
      have x3 := (D3.out.below hb11).1
      have x4 := (D4.out.below hb11).1
      have x5 := (D5.out.below hb11).1
      have x6 := (D6.out.below hb11).1
      go_wp2_with fail
      clear x0 x1 x2 x3 x4 x5 x6
      refine (W3 o_nw.rd ((H'.out.below HBD.out).below hb11)).mono ?_
      rintro e wv22 ⟨A22, q22, ss22, An22, qn22, rfl, hrow22, hns22, hq22⟩
      have x0 := ((D0.out.below hb11).below hq22).1
      have x1 := ((D1.out.below hb11).below hq22).1
      have x2 := ((D2.out.below hb11).below hq22).1
      have x3 := ((D3.out.below hb11).below hq22).1
      have x4 := ((D4.out.below hb11).below hq22).1
      have x5 := ((D5.out.below hb11).below hq22).1
      have x6 := ((D6.out.below hb11).below hq22).1
      go_wp2_with fail
      clear x0 x1 x2 x3 x4 x5 x6
      refine (T3 (((HT.out.below HBD.out).below hb11).below hq22) ((HRA.out.below hb11).below hq22) ((HRB.out.below hb11).below hq22)).mono ?_
      rintro e wv23 ⟨A23, q23, ss23, An23, qn23, rfl, hrow23, hns23, hq23, hch23⟩
      go_wp2_with fail
      refine (alike_yes hrow23.1.rd (hrow22.1.below hq23).rd hrow23.2.rda (hrow22.2.below hq23).rda (hrow23.2.lens (fun i => Nat.le_trans (hM3 i) (by omega))) (by omega) hns23 (hns22.below hq23) (by omega)).mono ?_
      rintro e w12 ⟨rfl, hb12⟩
      go_wp2_with fail
      refine (same1_yes ((((HRA.out.below hb11).below hq22).below hq23).below hb12) (((o_nw.rd.below hq22).below hq23).below hb12) rfl (by omega)).mono ?_
      rintro e w13 ⟨rfl, hb13⟩
      have HEND : Hid (Below w.heap.size w w13) := bt HBD.out (bt (bt (bt (bt hb11 hq22) hq23) hb12) hb13)
      go_wp2
      go_ret
      exact ⟨by simp, HEND.out⟩
end Go.Proofs.YtfpogghlcodncaaDoor
