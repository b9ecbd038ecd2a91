/-
  zz.Add, Mul, Neg, Of. Rows of integers; zpoly.size, Norm, Deg, at. zpoly.at, Add; making and writing rows of integers. zpoly.Mul. evals.AtInt, Homog. moves.Scale, Flip, Reverse. moves.Reverse; moves.line; moves.Compose, Shift.
-/
import Derived.Test.YtphofjinncbaaaaRatX
namespace Go.Proofs.Ytphofjinncbaaaa
open Go.RowKit
set_option linter.unusedVariables false
set_option linter.unusedSimpArgs false

set_option maxHeartbeats 1000000 in
theorem zadd_same {A A' : Option Addr} {n c m d x y L M : Nat} {s t : Bool} {w : World} (h : Num w (.slice A n c) x L) (h' : Num w (.slice A' m d) y M) (hst : s = t) (hL : L ≤ 8589934592) (hM : M ≤ 8589934592) :
    Calls Try.prog 26 #[.agg #[.bool s, .slice A n c], .agg #[.bool t, .slice A' m d]] w (GI w (sg s x + sg t y) (max L M + 1)) := by
  subst hst
  have H := Lib.hid h
  have H' := Lib.hid h'
  clear h h'
  have q0 : (s == s) = true := by simp
  go_enter Try.func26, Try.ntmps26
  have e0 := (((At.boxc (i := 0) (v := .bool s) (t := 47) (b := w.heap.size) w #[.bool s, .slice A n c] rfl (by simp)).below ((Below.refl _ _).alloc (Nat.le_refl _) (.cells #[.bool s, .slice A' m d] 47))).below ((Below.refl _ _).alloc (Nat.le_refl _) (.cells #[.bool false, .slice none 0 0] 47))).1
  have e1 := ((At.boxc (i := 0) (v := .bool s) (t := 47) (b := w.heap.size + 1) (World.alloc w (.cells #[.bool s, .slice A n c] 47)) #[.bool s, .slice A' m d] rfl (by simp)).below ((Below.refl _ _).alloc (Nat.le_refl _) (.cells #[.bool false, .slice none 0 0] 47))).1
  go_wp2_with fail
  clear e0 e1
  go_wp2_with fail
  have e_f0 := (((At.boxc (i := 0) (v := .bool s) (t := 47) (b := w.heap.size) w #[.bool s, .slice A n c] rfl (by simp)).below ((Below.refl _ _).alloc (Nat.le_refl _) (.cells #[.bool s, .slice A' m d] 47))).below ((Below.refl _ _).alloc (Nat.le_refl _) (.cells #[.bool false, .slice none 0 0] 47))).1
  have g_f0 := At.growS (b := (w.heap.size + 1 + 1)) (((At.boxc (i := 0) (v := .bool s) (t := 47) (b := w.heap.size) w #[.bool s, .slice A n c] rfl (by simp)).below ((Below.refl _ _).alloc (Nat.le_refl _) (.cells #[.bool s, .slice A' m d] 47))).below ((Below.refl _ _).alloc (Nat.le_refl _) (.cells #[.bool false, .slice none 0 0] 47))) (by simp <;> omega)
  have e_f1 := (((At.boxc (i := 1) (v := .slice A n c) (t := 47) (b := w.heap.size) w #[.bool s, .slice A n c] rfl (by simp)).below ((Below.refl _ _).alloc (Nat.le_refl _) (.cells #[.bool s, .slice A' m d] 47))).below ((Below.refl _ _).alloc (Nat.le_refl _) (.cells #[.bool false, .slice none 0 0] 47))).1
  have g_f1 := At.growS (b := (w.heap.size + 1 + 1)) (((At.boxc (i := 1) (v := .slice A n c) (t := 47) (b := w.heap.size) w #[.bool s, .slice A n c] rfl (by simp)).below ((Below.refl _ _).alloc (Nat.le_refl _) (.cells #[.bool s, .slice A' m d] 47))).below ((Below.refl _ _).alloc (Nat.le_refl _) (.cells #[.bool false, .slice none 0 0] 47))) (by simp <;> omega)
  have e_g1 := ((At.boxc (i := 1) (v := .slice A' m d) (t := 47) (b := w.heap.size + 1) (World.alloc w (.cells #[.bool s, .slice A n c] 47)) #[.bool s, .slice A' m d] rfl (by simp)).below ((Below.refl _ _).alloc (Nat.le_refl _) (.cells #[.bool false, .slice none 0 0] 47))).1
  have g_g1 := At.growS (b := (w.heap.size + 1 + 1)) ((At.boxc (i := 1) (v := .slice A' m d) (t := 47) (b := w.heap.size + 1) (World.alloc w (.cells #[.bool s, .slice A n c] 47)) #[.bool s, .slice A' m d] rfl (by simp)).below ((Below.refl _ _).alloc (Nat.le_refl _) (.cells #[.bool false, .slice none 0 0] 47))) (by simp <;> omega)
  refine wp_region_grow (some (w.heap.size + 1 + 1)) [(true, 0), (true, 1), (true, 2), (true, 3), (true, 4), (true, 5), (false, 6), (false, 7), (false, 8)] (by kernel_rfl) (by kernel_rfl) ?_
  repeat (refine ord_pas (by rfl) (fun K hK => ?_); go_simp; refine hK _ _ (fun w' hw' => (by first | (go_simp; done) | (go_simp; intro hh; cases hh))) ?_; clear hK K)
  (refine ord_call (by rfl) (fun K hK => ?_); go_simp; refine hK _ _ ?_; clear hK K)
  refine (nadd_any ((((H.out.below ((Below.refl _ _).alloc (Nat.le_refl _) (.cells #[.bool s, .slice A n c] 47))).below ((Below.refl _ _).alloc (Nat.le_refl _) (.cells #[.bool s, .slice A' m d] 47))).below ((Below.refl _ _).alloc (Nat.le_refl _) (.cells #[.bool false, .slice none 0 0] 47))).below (Below.refl _ _).drew) ((((H'.out.below ((Below.refl _ _).alloc (Nat.le_refl _) (.cells #[.bool s, .slice A n c] 47))).below ((Below.refl _ _).alloc (Nat.le_refl _) (.cells #[.bool s, .slice A' m d] 47))).below ((Below.refl _ _).alloc (Nat.le_refl _) (.cells #[.bool false, .slice none 0 0] 47))).below (Below.refl _ _).drew) (by omega) (by omega)).mono ?_
  rintro e w1 ⟨A_p, n_p, c_p, rfl, o_p, hb1, l_p⟩
  refine ⟨_, rfl, Grow.of_below hb1, ?_⟩
  (refine ord_norm (fun K hK => ?_); go_simp; refine hK _ ?_; clear hK K)
  have HBW := Lib.hid hb1
  (refine ord_call (by rfl) (fun K hK => ?_); go_simp; refine hK _ _ ?_; clear hK K)
  refine (zof_any (s := s)).mono ?_
  rintro e w2 ⟨rfl, hb2⟩
  refine ⟨_, rfl, Grow.of_below hb2, ?_⟩
  (refine ord_norm (fun K hK => ?_); go_simp; refine hK _ ?_; clear hK K)
  have c1 := ((((Cel.box (i := 0) (v := .bool false) (t := 47) (b := w.heap.size + 1 + 1) (World.alloc (World.alloc w (.cells #[.bool s, .slice A n c] 47)) (.cells #[.bool s, .slice A' m d] 47)) #[.bool false, .slice none 0 0] rfl (by simp)).below (Below.refl _ _).drew).below hb1).below hb2)
  have c2 := ((((Cel.box (i := 1) (v := .slice none 0 0) (t := 47) (b := w.heap.size + 1 + 1) (World.alloc (World.alloc w (.cells #[.bool s, .slice A n c] 47)) (.cells #[.bool s, .slice A' m d] 47)) #[.bool false, .slice none 0 0] rfl (by simp)).below (Below.refl _ _).drew).below hb1).below hb2)
  obtain ⟨c1a, c1b, c1c⟩ := c1
  obtain ⟨c2a, c2b, c2c⟩ := c2
  (refine ord_act (by rfl) (fun K hK => ?_); go_simp)
  refine hK _ _ ⟨Grow.trans _ _ _ _ (Grow.set rfl _) (Grow.set rfl _), ?_⟩
  clear hK K
  refine ord_nil ?_
  have HO := Lib.hid (o_p.below hb2)
  have HB := Lib.hid (bt (bt (bt (bt (bt ((Below.refl _ _).alloc (Nat.le_refl _) (.cells #[.bool s, .slice A n c] 47)) ((Below.refl _ _).alloc (Nat.le_refl _) (.cells #[.bool s, .slice A' m d] 47))) ((Below.refl _ _).alloc (Nat.le_refl _) (.cells #[.bool false, .slice none 0 0] 47))) (Below.refl _ _).drew) hb1) hb2)
  have HS : Hid ((s && decide (0 < n_p)) = decide (sg (s) (x + y) < 0)) := sgn_len HO.out
  go_wp2
  refine bodyPost_ret (v := .agg #[.bool (s && decide (0 < n_p)), .slice A_p n_p c_p]) (by simp [results, Try.results26, go_sem, c1a, c2a]) rfl ?_
  refine GI.eq (gi_fin (L := max L M + 1) (wb := World.drew (World.alloc (World.alloc (World.alloc w (.cells #[.bool s, .slice A n c] 47)) (.cells #[.bool s, .slice A' m d] 47)) (.cells #[.bool false, .slice none 0 0] 47))) HS (by rw [sg_abs]; exact HO.out) HB.out ?_ (by omega)) (sg_same s x y)
  refine ⟨by omega, ?_⟩
  simp
theorem sg_less {s t : Bool} (h : s ≠ t) (x y : Nat) : sg (s != decide (x < y)) (x - y + (y - x)) = sg s x + sg t y := by
  by_cases hxy : x < y
  · rw [decide_eq_true hxy]
    cases s <;> cases t <;> simp at h <;> simp [sg] <;> omega
  · rw [decide_eq_false hxy]
    cases s <;> cases t <;> simp at h <;> simp [sg] <;> omega
set_option maxHeartbeats 1000000 in
theorem zadd_diff {A A' : Option Addr} {n c m d x y L M : Nat} {s t : Bool} {w : World} (h : Num w (.slice A n c) x L) (h' : Num w (.slice A' m d) y M) (hst : s ≠ t) (hL : L ≤ 8589934592) (hM : M ≤ 8589934592) :
    Calls Try.prog 26 #[.agg #[.bool s, .slice A n c], .agg #[.bool t, .slice A' m d]] w (GI w (sg s x + sg t y) (max L M + 1)) := by
  have H := Lib.hid h
  have H' := Lib.hid h'
  have HST := Lib.hid hst
  clear h h'
  have q0 : (s == t) = false := by cases s <;> cases t <;> simp at hst ⊢
  obtain ⟨l, hl⟩ : ∃ l, decide (x < y) = l := ⟨_, rfl⟩
  have HL := Lib.hid hl
  have CD := Lib.hid fun (w : World) (a : Num w (.slice A n c) x L) (b : Num w (.slice A' m d) y M) => ndiff_any a b (by omega) (by omega)
  rw [hl] at CD
  clear hl hst
  go_enter Try.func26, Try.ntmps26
  have e0 := (((At.boxc (i := 0) (v := .bool s) (t := 47) (b := w.heap.size) w #[.bool s, .slice A n c] rfl (by simp)).below ((Below.refl _ _).alloc (Nat.le_refl _) (.cells #[.bool t, .slice A' m d] 47))).below ((Below.refl _ _).alloc (Nat.le_refl _) (.cells #[.bool false, .slice none 0 0] 47))).1
  have e1 := ((At.boxc (i := 0) (v := .bool t) (t := 47) (b := w.heap.size + 1) (World.alloc w (.cells #[.bool s, .slice A n c] 47)) #[.bool t, .slice A' m d] rfl (by simp)).below ((Below.refl _ _).alloc (Nat.le_refl _) (.cells #[.bool false, .slice none 0 0] 47))).1
  have e2 := (((At.boxc (i := 1) (v := .slice A n c) (t := 47) (b := w.heap.size) w #[.bool s, .slice A n c] rfl (by simp)).below ((Below.refl _ _).alloc (Nat.le_refl _) (.cells #[.bool t, .slice A' m d] 47))).below ((Below.refl _ _).alloc (Nat.le_refl _) (.cells #[.bool false, .slice none 0 0] 47))).1
  have e3 := ((At.boxc (i := 1) (v := .slice A' m d) (t := 47) (b := w.heap.size + 1) (World.alloc w (.cells #[.bool s, .slice A n c] 47)) #[.bool t, .slice A' m d] rfl (by simp)).below ((Below.refl _ _).alloc (Nat.le_refl _) (.cells #[.bool false, .slice none 0 0] 47))).1
  go_wp2_with fail
  refine (CD.out _ (((H.out.below ((Below.refl _ _).alloc (Nat.le_refl _) (.cells #[.bool s, .slice A n c] 47))).below ((Below.refl _ _).alloc (Nat.le_refl _) (.cells #[.bool t, .slice A' m d] 47))).below ((Below.refl _ _).alloc (Nat.le_refl _) (.cells #[.bool false, .slice none 0 0] 47))) (((H'.out.below ((Below.refl _ _).alloc (Nat.le_refl _) (.cells #[.bool s, .slice A n c] 47))).below ((Below.refl _ _).alloc (Nat.le_refl _) (.cells #[.bool t, .slice A' m d] 47))).below ((Below.refl _ _).alloc (Nat.le_refl _) (.cells #[.bool false, .slice none 0 0] 47)))).mono ?_
  rintro e wq ⟨A_p, n_p, c_p, rfl, o_p, hbq, l_p⟩
  clear e0 e1 e2 e3
  have e0 := ((((At.boxc (i := 0) (v := .bool s) (t := 47) (b := w.heap.size) w #[.bool s, .slice A n c] rfl (by simp)).below ((Below.refl _ _).alloc (Nat.le_refl _) (.cells #[.bool t, .slice A' m d] 47))).below ((Below.refl _ _).alloc (Nat.le_refl _) (.cells #[.bool false, .slice none 0 0] 47))).below hbq).1
  go_wp2_with fail
  refine (zof_any (s := (s != l))).mono ?_
  rintro e w1 ⟨rfl, hb1⟩
  clear e0
  have c1 := (((Cel.box (i := 0) (v := .bool false) (t := 47) (b := w.heap.size + 1 + 1) (World.alloc (World.alloc w (.cells #[.bool s, .slice A n c] 47)) (.cells #[.bool t, .slice A' m d] 47)) #[.bool false, .slice none 0 0] rfl (by simp)).below hbq).below hb1)
  have c2 := (((Cel.box (i := 1) (v := .slice none 0 0) (t := 47) (b := w.heap.size + 1 + 1) (World.alloc (World.alloc w (.cells #[.bool s, .slice A n c] 47)) (.cells #[.bool t, .slice A' m d] 47)) #[.bool false, .slice none 0 0] rfl (by simp)).below hbq).below hb1)
  obtain ⟨c1a, c1b, c1c⟩ := c1
  obtain ⟨c2a, c2b, c2c⟩ := c2
  have HO := Lib.hid (o_p.below hb1)
  have HB := Lib.hid (bt (bt (bt (bt ((Below.refl _ _).alloc (Nat.le_refl _) (.cells #[.bool s, .slice A n c] 47)) ((Below.refl _ _).alloc (Nat.le_refl _) (.cells #[.bool t, .slice A' m d] 47))) ((Below.refl _ _).alloc (Nat.le_refl _) (.cells #[.bool false, .slice none 0 0] 47))) hbq) hb1)
  have HS : Hid (((s != l) && decide (0 < n_p)) = decide (sg (s != l) (x - y + (y - x)) < 0)) := sgn_len HO.out
  go_wp2
  refine bodyPost_ret (v := .agg #[.bool ((s != l) && decide (0 < n_p)), .slice A_p n_p c_p]) (by simp [results, Try.results26, go_sem, c1a, c2a]) rfl ?_
  refine GI.eq (gi_fin (L := max L M + 1) (wb := World.alloc (World.alloc (World.alloc w (.cells #[.bool s, .slice A n c] 47)) (.cells #[.bool t, .slice A' m d] 47)) (.cells #[.bool false, .slice none 0 0] 47)) HS (by rw [sg_abs]; exact HO.out) HB.out ?_ (by omega)) (by rw [← HL.out]; exact sg_less HST.out x y)
  refine ⟨by omega, ?_⟩
  simp
theorem zadd_any {A A' : Option Addr} {n c m d x y L M : Nat} {s t : Bool} {w : World} (h : Num w (.slice A n c) x L) (h' : Num w (.slice A' m d) y M) (hL : L ≤ 8589934592) (hM : M ≤ 8589934592) :
    Calls Try.prog 26 #[.agg #[.bool s, .slice A n c], .agg #[.bool t, .slice A' m d]] w (GI w (sg s x + sg t y) (max L M + 1)) := by
  by_cases hst : s = t
  · exact zadd_same h h' hst hL hM
  · exact zadd_diff h h' hst hL hM
set_option maxHeartbeats 1000000 in
theorem zmul_any {A A' : Option Addr} {n c m d x y L M : Nat} {s t : Bool} {w : World} (h : Num w (.slice A n c) x L) (h' : Num w (.slice A' m d) y M) (hL : L ≤ 8589934592) (hM : M ≤ 8589934592) :
    Calls Try.prog 29 #[.agg #[.bool s, .slice A n c], .agg #[.bool t, .slice A' m d]] w (GI w (sg s x * sg t y) (L + M)) := by
  have H := Lib.hid h
  have H' := Lib.hid h'
  clear h h'
  go_enter Try.func29, Try.ntmps29
  go_wp2_with fail
  have e_f0 := (((At.boxc (i := 0) (v := .bool s) (t := 47) (b := w.heap.size) w #[.bool s, .slice A n c] rfl (by simp)).below ((Below.refl _ _).alloc (Nat.le_refl _) (.cells #[.bool t, .slice A' m d] 47))).below ((Below.refl _ _).alloc (Nat.le_refl _) (.cells #[.bool false, .slice none 0 0] 47))).1
  have g_f0 := At.growS (b := (w.heap.size + 1 + 1)) (((At.boxc (i := 0) (v := .bool s) (t := 47) (b := w.heap.size) w #[.bool s, .slice A n c] rfl (by simp)).below ((Below.refl _ _).alloc (Nat.le_refl _) (.cells #[.bool t, .slice A' m d] 47))).below ((Below.refl _ _).alloc (Nat.le_refl _) (.cells #[.bool false, .slice none 0 0] 47))) (by simp <;> omega)
  have e_f1 := (((At.boxc (i := 1) (v := .slice A n c) (t := 47) (b := w.heap.size) w #[.bool s, .slice A n c] rfl (by simp)).below ((Below.refl _ _).alloc (Nat.le_refl _) (.cells #[.bool t, .slice A' m d] 47))).below ((Below.refl _ _).alloc (Nat.le_refl _) (.cells #[.bool false, .slice none 0 0] 47))).1
  have g_f1 := At.growS (b := (w.heap.size + 1 + 1)) (((At.boxc (i := 1) (v := .slice A n c) (t := 47) (b := w.heap.size) w #[.bool s, .slice A n c] rfl (by simp)).below ((Below.refl _ _).alloc (Nat.le_refl _) (.cells #[.bool t, .slice A' m d] 47))).below ((Below.refl _ _).alloc (Nat.le_refl _) (.cells #[.bool false, .slice none 0 0] 47))) (by simp <;> omega)
  have e_g0 := ((At.boxc (i := 0) (v := .bool t) (t := 47) (b := w.heap.size + 1) (World.alloc w (.cells #[.bool s, .slice A n c] 47)) #[.bool t, .slice A' m d] rfl (by simp)).below ((Below.refl _ _).alloc (Nat.le_refl _) (.cells #[.bool false, .slice none 0 0] 47))).1
  have g_g0 := At.growS (b := (w.heap.size + 1 + 1)) ((At.boxc (i := 0) (v := .bool t) (t := 47) (b := w.heap.size + 1) (World.alloc w (.cells #[.bool s, .slice A n c] 47)) #[.bool t, .slice A' m d] rfl (by simp)).below ((Below.refl _ _).alloc (Nat.le_refl _) (.cells #[.bool false, .slice none 0 0] 47))) (by simp <;> omega)
  have e_g1 := ((At.boxc (i := 1) (v := .slice A' m d) (t := 47) (b := w.heap.size + 1) (World.alloc w (.cells #[.bool s, .slice A n c] 47)) #[.bool t, .slice A' m d] rfl (by simp)).below ((Below.refl _ _).alloc (Nat.le_refl _) (.cells #[.bool false, .slice none 0 0] 47))).1
  have g_g1 := At.growS (b := (w.heap.size + 1 + 1)) ((At.boxc (i := 1) (v := .slice A' m d) (t := 47) (b := w.heap.size + 1) (World.alloc w (.cells #[.bool s, .slice A n c] 47)) #[.bool t, .slice A' m d] rfl (by simp)).below ((Below.refl _ _).alloc (Nat.le_refl _) (.cells #[.bool false, .slice none 0 0] 47))) (by simp <;> omega)
  refine wp_region_grow (some (w.heap.size + 1 + 1)) [(true, 0), (true, 1), (true, 2), (true, 3), (true, 4), (true, 5), (true, 6), (true, 7), (true, 8), (false, 9), (false, 10), (false, 11)] (by kernel_rfl) (by kernel_rfl) ?_
  repeat (refine ord_pas (by rfl) (fun K hK => ?_); go_simp; refine hK _ _ (fun w' hw' => (by first | (go_simp; done) | (go_simp; intro hh; cases hh))) ?_; clear hK K)
  (refine ord_call (by rfl) (fun K hK => ?_); go_simp; refine hK _ _ ?_; clear hK K)
  refine (mul_any ((((H.out.below ((Below.refl _ _).alloc (Nat.le_refl _) (.cells #[.bool s, .slice A n c] 47))).below ((Below.refl _ _).alloc (Nat.le_refl _) (.cells #[.bool t, .slice A' m d] 47))).below ((Below.refl _ _).alloc (Nat.le_refl _) (.cells #[.bool false, .slice none 0 0] 47))).below (Below.refl _ _).drew) ((((H'.out.below ((Below.refl _ _).alloc (Nat.le_refl _) (.cells #[.bool s, .slice A n c] 47))).below ((Below.refl _ _).alloc (Nat.le_refl _) (.cells #[.bool t, .slice A' m d] 47))).below ((Below.refl _ _).alloc (Nat.le_refl _) (.cells #[.bool false, .slice none 0 0] 47))).below (Below.refl _ _).drew) (by omega) (by omega)).mono ?_
  rintro e w1 ⟨A_p, n_p, c_p, rfl, o_p, hb1, l_p⟩
  refine ⟨_, rfl, Grow.of_below hb1, ?_⟩
  (refine ord_norm (fun K hK => ?_); go_simp; refine hK _ ?_; clear hK K)
  have HBW := Lib.hid hb1
  (refine ord_call (by rfl) (fun K hK => ?_); go_simp; refine hK _ _ ?_; clear hK K)
  refine (zof_any (s := (s != t))).mono ?_
  rintro e w2 ⟨rfl, hb2⟩
  refine ⟨_, rfl, Grow.of_below hb2, ?_⟩
  (refine ord_norm (fun K hK => ?_); go_simp; refine hK _ ?_; clear hK K)
  have c1 := ((((Cel.box (i := 0) (v := .bool false) (t := 47) (b := w.heap.size + 1 + 1) (World.alloc (World.alloc w (.cells #[.bool s, .slice A n c] 47)) (.cells #[.bool t, .slice A' m d] 47)) #[.bool false, .slice none 0 0] rfl (by simp)).below (Below.refl _ _).drew).below hb1).below hb2)
  have c2 := ((((Cel.box (i := 1) (v := .slice none 0 0) (t := 47) (b := w.heap.size + 1 + 1) (World.alloc (World.alloc w (.cells #[.bool s, .slice A n c] 47)) (.cells #[.bool t, .slice A' m d] 47)) #[.bool false, .slice none 0 0] rfl (by simp)).below (Below.refl _ _).drew).below hb1).below hb2)
  obtain ⟨c1a, c1b, c1c⟩ := c1
  obtain ⟨c2a, c2b, c2c⟩ := c2
  (refine ord_act (by rfl) (fun K hK => ?_); go_simp)
  refine hK _ _ ⟨Grow.trans _ _ _ _ (Grow.set rfl _) (Grow.set rfl _), ?_⟩
  clear hK K
  refine ord_nil ?_
  have HO := Lib.hid (o_p.below hb2)
  have HB := Lib.hid (bt (bt (bt (bt (bt ((Below.refl _ _).alloc (Nat.le_refl _) (.cells #[.bool s, .slice A n c] 47)) ((Below.refl _ _).alloc (Nat.le_refl _) (.cells #[.bool t, .slice A' m d] 47))) ((Below.refl _ _).alloc (Nat.le_refl _) (.cells #[.bool false, .slice none 0 0] 47))) (Below.refl _ _).drew) hb1) hb2)
  have HS : Hid (((s != t) && decide (0 < n_p)) = decide (sg ((s != t)) (x * y) < 0)) := sgn_len HO.out
  go_wp2
  refine bodyPost_ret (v := .agg #[.bool ((s != t) && decide (0 < n_p)), .slice A_p n_p c_p]) (by simp [results, Try.results29, go_sem, c1a, c2a]) rfl ?_
  refine GI.eq (gi_fin (L := L + M) (wb := World.drew (World.alloc (World.alloc (World.alloc w (.cells #[.bool s, .slice A n c] 47)) (.cells #[.bool t, .slice A' m d] 47)) (.cells #[.bool false, .slice none 0 0] 47))) HS (by rw [sg_abs]; exact HO.out) HB.out ?_ (by omega)) (sg_mul s t x y)
  refine ⟨by omega, ?_⟩
  simp
set_option maxHeartbeats 1000000 in
theorem zneg_any {s : Bool} {A : Option Addr} {n c x L : Nat} {w : World} (h : Num w (.slice A n c) x L) (hL : L ≤ 1099511627776) : Calls Try.prog 27 #[.agg #[.bool s, .slice A n c]] w (GI w (-sg s x) L) := by
  have H := Lib.hid h
  clear h
  go_enter Try.func27, Try.ntmps27
  go_wp2_with fail
  have e_f0 := ((At.boxc (i := 0) (v := .bool s) (t := 47) (b := w.heap.size) w #[.bool s, .slice A n c] rfl (by simp)).below ((Below.refl _ _).alloc (Nat.le_refl _) (.cells #[.bool false, .slice none 0 0] 47))).1
  have g_f0 := At.growS (b := (w.heap.size + 1)) ((At.boxc (i := 0) (v := .bool s) (t := 47) (b := w.heap.size) w #[.bool s, .slice A n c] rfl (by simp)).below ((Below.refl _ _).alloc (Nat.le_refl _) (.cells #[.bool false, .slice none 0 0] 47))) (by simp <;> omega)
  have e_f1 := ((At.boxc (i := 1) (v := .slice A n c) (t := 47) (b := w.heap.size) w #[.bool s, .slice A n c] rfl (by simp)).below ((Below.refl _ _).alloc (Nat.le_refl _) (.cells #[.bool false, .slice none 0 0] 47))).1
  have g_f1 := At.growS (b := (w.heap.size + 1)) ((At.boxc (i := 1) (v := .slice A n c) (t := 47) (b := w.heap.size) w #[.bool s, .slice A n c] rfl (by simp)).below ((Below.refl _ _).alloc (Nat.le_refl _) (.cells #[.bool false, .slice none 0 0] 47))) (by simp <;> omega)
  refine wp_region_grow (some (w.heap.size + 1)) [(true, 0), (true, 1), (true, 2), (true, 3), (true, 4), (false, 5), (false, 6), (false, 7)] (by kernel_rfl) (by kernel_rfl) ?_
  repeat (refine ord_pas (by rfl) (fun K hK => ?_); go_simp; refine hK _ _ (fun w' hw' => (by first | (go_simp; done) | (go_simp; intro hh; cases hh))) ?_; clear hK K)
  (refine ord_call (by rfl) (fun K hK => ?_); go_simp; refine hK _ _ ?_; clear hK K)
  refine (nnorm_any (((H.out.below ((Below.refl _ _).alloc (Nat.le_refl _) (.cells #[.bool s, .slice A n c] 47))).below ((Below.refl _ _).alloc (Nat.le_refl _) (.cells #[.bool false, .slice none 0 0] 47))).below (Below.refl _ _).drew) (by omega)).mono ?_
  rintro e w1 ⟨A_p, n_p, c_p, rfl, o_p, hb1, l_p⟩
  refine ⟨_, rfl, Grow.of_below hb1, ?_⟩
  (refine ord_norm (fun K hK => ?_); go_simp; refine hK _ ?_; clear hK K)
  (refine ord_call (by rfl) (fun K hK => ?_); go_simp; refine hK _ _ ?_; clear hK K)
  refine (zof_any (s := !s)).mono ?_
  rintro e w2 ⟨rfl, hb2⟩
  refine ⟨_, rfl, Grow.of_below hb2, ?_⟩
  (refine ord_norm (fun K hK => ?_); go_simp; refine hK _ ?_; clear hK K)
  have c1 := ((((Cel.box (i := 0) (v := .bool false) (t := 47) (b := w.heap.size + 1) (World.alloc w (.cells #[.bool s, .slice A n c] 47)) #[.bool false, .slice none 0 0] rfl (by simp)).below (Below.refl _ _).drew).below hb1).below hb2)
  have c2 := ((((Cel.box (i := 1) (v := .slice none 0 0) (t := 47) (b := w.heap.size + 1) (World.alloc w (.cells #[.bool s, .slice A n c] 47)) #[.bool false, .slice none 0 0] rfl (by simp)).below (Below.refl _ _).drew).below hb1).below hb2)
  obtain ⟨c1a, c1b, c1c⟩ := c1
  obtain ⟨c2a, c2b, c2c⟩ := c2
  (refine ord_act (by rfl) (fun K hK => ?_); go_simp)
  refine hK _ _ ⟨Grow.trans _ _ _ _ (Grow.set rfl _) (Grow.set rfl _), ?_⟩
  clear hK K
  refine ord_nil ?_
  have HO := Lib.hid (o_p.below hb2)
  have HB := Lib.hid (bt (bt (bt (bt ((Below.refl _ _).alloc (Nat.le_refl _) (.cells #[.bool s, .slice A n c] 47)) ((Below.refl _ _).alloc (Nat.le_refl _) (.cells #[.bool false, .slice none 0 0] 47))) (Below.refl _ _).drew) hb1) hb2)
  have HS : Hid (((!s) && decide (0 < n_p)) = decide (sg ((!s)) (x) < 0)) := sgn_len HO.out
  go_wp2
  refine bodyPost_ret (v := .agg #[.bool ((!s) && decide (0 < n_p)), .slice A_p n_p c_p]) (by simp [results, Try.results27, go_sem, c1a, c2a]) rfl ?_
  refine GI.eq (gi_fin (wb := World.drew (World.alloc (World.alloc w (.cells #[.bool s, .slice A n c] 47)) (.cells #[.bool false, .slice none 0 0] 47))) HS (by rw [sg_abs]; exact HO.out) HB.out ?_ (by omega)) (sg_not s x)
  refine ⟨by omega, ?_⟩
  simp
set_option maxHeartbeats 1000000 in
theorem zof_0 {w : World} : Calls Try.prog 51 #[.int .i64 (0)] w (GI w (0) 1) := by
  go_enter Try.func51, Try.ntmps51
  go_wp2_with fail
  refine (nof_any (x := 0) rfl (by rw [W_eq]; omega)).mono ?_
  rintro e w1 ⟨A_p, n_p, c_p, rfl, o_p, hb1, l_p⟩
  go_wp2_with fail
  refine (zof_any (s := false)).mono ?_
  rintro e w2 ⟨rfl, hb2⟩
  have c1 := (((Cel.box (i := 0) (v := .bool false) (t := 47) (b := w.heap.size) w #[.bool false, .slice none 0 0] rfl (by simp)).below hb1).below hb2)
  have c2 := (((Cel.box (i := 1) (v := .slice none 0 0) (t := 47) (b := w.heap.size) w #[.bool false, .slice none 0 0] rfl (by simp)).below hb1).below hb2)
  obtain ⟨c1a, c1b, c1c⟩ := c1
  obtain ⟨c2a, c2b, c2c⟩ := c2
  have HO := Lib.hid (o_p.below hb2)
  have HB := Lib.hid (bt (bt ((Below.refl _ _).alloc (Nat.le_refl _) (.cells #[.bool false, .slice none 0 0] 47)) hb1) hb2)
  have HS : Hid ((false && decide (0 < n_p)) = decide (sg false 0 < 0)) := sgn_len HO.out
  go_wp2
  refine bodyPost_ret (v := .agg #[.bool (false && decide (0 < n_p)), .slice A_p n_p c_p]) (by simp [results, Try.results51, go_sem, c1a, c2a]) rfl ?_
  refine GI.eq (gi_fin (wb := World.alloc w (.cells #[.bool false, .slice none 0 0] 47)) HS (by rw [sg_abs]; exact HO.out) HB.out ?_ (by omega)) (by rfl)
  refine ⟨by omega, ?_⟩
  simp
set_option maxHeartbeats 1000000 in
theorem zof_1 {w : World} : Calls Try.prog 51 #[.int .i64 (1)] w (GI w (1) 1) := by
  go_enter Try.func51, Try.ntmps51
  go_wp2_with fail
  refine (nof_any (x := 1) rfl (by rw [W_eq]; omega)).mono ?_
  rintro e w1 ⟨A_p, n_p, c_p, rfl, o_p, hb1, l_p⟩
  go_wp2_with fail
  refine (zof_any (s := false)).mono ?_
  rintro e w2 ⟨rfl, hb2⟩
  have c1 := (((Cel.box (i := 0) (v := .bool false) (t := 47) (b := w.heap.size) w #[.bool false, .slice none 0 0] rfl (by simp)).below hb1).below hb2)
  have c2 := (((Cel.box (i := 1) (v := .slice none 0 0) (t := 47) (b := w.heap.size) w #[.bool false, .slice none 0 0] rfl (by simp)).below hb1).below hb2)
  obtain ⟨c1a, c1b, c1c⟩ := c1
  obtain ⟨c2a, c2b, c2c⟩ := c2
  have HO := Lib.hid (o_p.below hb2)
  have HB := Lib.hid (bt (bt ((Below.refl _ _).alloc (Nat.le_refl _) (.cells #[.bool false, .slice none 0 0] 47)) hb1) hb2)
  have HS : Hid ((false && decide (0 < n_p)) = decide (sg false 1 < 0)) := sgn_len HO.out
  go_wp2
  refine bodyPost_ret (v := .agg #[.bool (false && decide (0 < n_p)), .slice A_p n_p c_p]) (by simp [results, Try.results51, go_sem, c1a, c2a]) rfl ?_
  refine GI.eq (gi_fin (wb := World.alloc w (.cells #[.bool false, .slice none 0 0] 47)) HS (by rw [sg_abs]; exact HO.out) HB.out ?_ (by omega)) (by rfl)
  refine ⟨by omega, ?_⟩
  simp
set_option maxHeartbeats 1000000 in
theorem zof_m1 {w : World} : Calls Try.prog 51 #[.int .i64 (-1)] w (GI w (-1) 1) := by
  go_enter Try.func51, Try.ntmps51
  go_wp2_with fail
  refine (nof_any (x := 1) rfl (by rw [W_eq]; omega)).mono ?_
  rintro e w1 ⟨A_p, n_p, c_p, rfl, o_p, hb1, l_p⟩
  go_wp2_with fail
  refine (zof_any (s := true)).mono ?_
  rintro e w2 ⟨rfl, hb2⟩
  have c1 := (((Cel.box (i := 0) (v := .bool false) (t := 47) (b := w.heap.size) w #[.bool false, .slice none 0 0] rfl (by simp)).below hb1).below hb2)
  have c2 := (((Cel.box (i := 1) (v := .slice none 0 0) (t := 47) (b := w.heap.size) w #[.bool false, .slice none 0 0] rfl (by simp)).below hb1).below hb2)
  obtain ⟨c1a, c1b, c1c⟩ := c1
  obtain ⟨c2a, c2b, c2c⟩ := c2
  have HO := Lib.hid (o_p.below hb2)
  have HB := Lib.hid (bt (bt ((Below.refl _ _).alloc (Nat.le_refl _) (.cells #[.bool false, .slice none 0 0] 47)) hb1) hb2)
  have HS : Hid ((true && decide (0 < n_p)) = decide (sg true 1 < 0)) := sgn_len HO.out
  go_wp2
  refine bodyPost_ret (v := .agg #[.bool (true && decide (0 < n_p)), .slice A_p n_p c_p]) (by simp [results, Try.results51, go_sem, c1a, c2a]) rfl ?_
  refine GI.eq (gi_fin (wb := World.alloc w (.cells #[.bool false, .slice none 0 0] 47)) HS (by rw [sg_abs]; exact HO.out) HB.out ?_ (by omega)) (by rfl)
  refine ⟨by omega, ?_⟩
  simp
end Go.Proofs.Ytphofjinncbaaaa
namespace Go.Proofs.Ytphofjinncbaaaa
open Go.RowKit
set_option linter.unusedVariables false
set_option linter.unusedSimpArgs false

/-- an integer as it came in: the sign, the size -/
abbrev Zc := Bool × Nat
def zv (r : Zc) : Int := sg r.1 r.2
abbrev Hz := Bool × Sh
def zhv (h : Hz) : List Value := [.bool h.1, shv h.2]
theorem zhv_len (h : Hz) : (zhv h).length = 2 := rfl
theorem zhv_one (hs : List Hz) : ∀ u ∈ hs.flatMap zhv, u.oneCell' = true := by
  intro u hu
  obtain ⟨h, _, hm⟩ := List.mem_flatMap.1 hu
  simp [zhv] at hm
  rcases hm with rfl | rfl <;> rfl
def RawZ (L : Nat) (w : World) (h : Hz) (r : Zc) : Prop := h.1 = r.1 ∧ Num w (shv h.2) r.2 L
/-- in its own form, the call's own -/
def CanZ (B L : Nat) (w : World) (h : Hz) (z : Int) : Prop := h.1 = decide (z < 0) ∧ Own .u64 76 B w h.2.1 h.2.2.1 h.2.2.2 (dg W z.natAbs) ∧ h.2.2.1 ≤ L
/-- in its own form, to be read -/
def CanY (L : Nat) (w : World) (h : Hz) (z : Int) : Prop := h.1 = decide (z < 0) ∧ Rd .u64 w h.2.1 h.2.2.1 h.2.2.2 (dg W z.natAbs) ∧ h.2.2.1 ≤ L
def zco (z : Int) : Zc := (decide (z < 0), z.natAbs)
theorem zv_zco (z : Int) : zv (zco z) = z := sg_of rfl
section
variable {B B' L L' : Nat} {w w' : World} {h : Hz} {r : Zc} {z : Int}
theorem RawZ.below (H : RawZ L w h r) (hb : Below w.heap.size w w') : RawZ L w' h r := ⟨H.1, H.2.below hb⟩
theorem RawZ.mono (H : RawZ L w h r) (hL : L ≤ L') : RawZ L' w h r := ⟨H.1, H.2.mono hL⟩
theorem CanZ.y (H : CanZ B L w h z) : CanY L w h z := ⟨H.1, H.2.1.rd, H.2.2⟩
theorem CanY.below (H : CanY L w h z) (hb : Below w.heap.size w w') : CanY L w' h z := ⟨H.1, H.2.1.below hb, H.2.2⟩
theorem CanY.raw (H : CanY L w h z) : RawZ L w h (zco z) := ⟨H.1, ⟨_, _, _, _, rfl, H.2.1, dg_all W_gt _, dg_val W_gt _, H.2.2⟩⟩
theorem CanZ.below (H : CanZ B L w h z) (hb : Below w.heap.size w w') : CanZ B L w' h z := ⟨H.1, H.2.1.below hb, H.2.2⟩
theorem CanZ.mono (H : CanZ B L w h z) (hB : B' ≤ B) : CanZ B' L w h z := ⟨H.1, H.2.1.mono hB, H.2.2⟩
theorem CanZ.grown {T : TypeId} {s m : Nat} {vs : List Value} {u : Value} (H : CanZ B L w h z) (hr : w.ownsRow B T s u m vs) (hne : 76 ≠ T) (hg : w.grownBy w' u.ownBlock) : CanZ B L w' h z := ⟨H.1, H.2.1.other hr hne hg, H.2.2⟩
/-- the length is the value's -/
theorem CanZ.bound {K : Nat} (H : CanZ B L w h z) (hz : z.natAbs < W ^ K) : CanZ B K w h z := ⟨H.1, H.2.1, by have h1 := H.2.1.rd.len; have h2 := dg_len W_gt hz; omega⟩
end
def ZPI (L : Nat) (w : World) (v : Value) (rs : List Zc) : Prop := ∃ A n c hs, v = .slice A n c ∧ RdK 2 w A n c (hs.flatMap zhv) ∧ n = rs.length ∧ All2 (RawZ L w) hs rs
def ZPC (L : Nat) (w : World) (v : Value) (zs : List Int) : Prop := ∃ A n c hs, v = .slice A n c ∧ RdK 2 w A n c (hs.flatMap zhv) ∧ n = zs.length ∧ All2 (CanY L w) hs zs
def ZPO (B L : Nat) (w : World) (v : Value) (zs : List Int) : Prop := ∃ A n c hs, v = .slice A n c ∧ RowK 2 47 B w A n c (hs.flatMap zhv) ∧ n = zs.length ∧ All2 (CanZ B L w) hs zs
section
variable {B B' L L' : Nat} {w w' : World} {v : Value} {rs : List Zc} {zs : List Int}
theorem ZPI.below (H : ZPI L w v rs) (hb : Below w.heap.size w w') : ZPI L w' v rs := by
  obtain ⟨A, n, c, hs, rfl, h1, h2, h3⟩ := H
  exact ⟨A, n, c, hs, rfl, h1.below hb, h2, h3.imp fun _ _ e => e.below hb⟩
theorem ZPI.mono (H : ZPI L w v rs) (hL : L ≤ L') : ZPI L' w v rs := by
  obtain ⟨A, n, c, hs, rfl, h1, h2, h3⟩ := H
  exact ⟨A, n, c, hs, rfl, h1, h2, h3.imp fun _ _ e => e.mono hL⟩
theorem ZPI.len {A : Option Addr} {n c : Nat} (H : ZPI L w (.slice A n c) rs) : n = rs.length ∧ n ≤ c := by
  obtain ⟨_, _, _, hs, e, h1, h2, h3⟩ := H
  injection e with _ e2 e3
  subst e2 e3
  exact ⟨h2, h1.1.2⟩
theorem ZPC.below (H : ZPC L w v zs) (hb : Below w.heap.size w w') : ZPC L w' v zs := by
  obtain ⟨A, n, c, hs, rfl, h1, h2, h3⟩ := H
  exact ⟨A, n, c, hs, rfl, h1.below hb, h2, h3.imp fun _ _ e => e.below hb⟩
theorem ZPC.inp (H : ZPC L w v zs) : ZPI L w v (zs.map zco) := by
  obtain ⟨A, n, c, hs, rfl, h1, h2, h3⟩ := H
  refine ⟨A, n, c, hs, rfl, h1, by rw [List.length_map]; exact h2, by rw [List.length_map]; exact h3.1, fun i hd r e1 e2 => ?_⟩
  rw [List.getElem?_map] at e2
  obtain ⟨z, e3, e4⟩ := Option.map_eq_some_iff.1 e2
  subst e4
  exact (h3.2 i hd z e1 e3).raw
theorem ZPO.below (H : ZPO B L w v zs) (hb : Below w.heap.size w w') : ZPO B L w' v zs := by
  obtain ⟨A, n, c, hs, rfl, h1, h2, h3⟩ := H
  exact ⟨A, n, c, hs, rfl, h1.below hb, h2, h3.imp fun _ _ e => e.below hb⟩
theorem ZPO.mono (H : ZPO B L w v zs) (hB : B' ≤ B) : ZPO B' L w v zs := by
  obtain ⟨A, n, c, hs, rfl, h1, h2, h3⟩ := H
  exact ⟨A, n, c, hs, rfl, h1.mono hB, h2, h3.imp fun _ _ e => e.mono hB⟩
theorem ZPO.c (H : ZPO B L w v zs) : ZPC L w v zs := by
  obtain ⟨A, n, c, hs, rfl, h1, h2, h3⟩ := H
  exact ⟨A, n, c, hs, rfl, h1.rd, h2, h3.imp fun _ _ e => e.y⟩
theorem ZPO.bound {K : Nat} (H : ZPO B L w v zs) (hz : ∀ z ∈ zs, z.natAbs < W ^ K) : ZPO B K w v zs := by
  obtain ⟨A, n, c, hs, rfl, h1, h2, h3⟩ := H
  exact ⟨A, n, c, hs, rfl, h1, h2, h3.1, fun i h z e1 e2 => (h3.2 i h z e1 e2).bound (hz z (List.mem_of_getElem? e2))⟩
theorem ZPO.len {A : Option Addr} {n c : Nat} (H : ZPO B L w (.slice A n c) zs) : n = zs.length := by
  obtain ⟨_, _, _, hs, e, h1, h2, h3⟩ := H
  injection e with _ e2 e3
  subst e2
  exact h2
theorem ZPO.nil : ZPO B L w (.slice none 0 0) [] := ⟨none, 0, 0, [], rfl, RowK.nil, rfl, All2.nil⟩
theorem ZPI.nil : ZPI L w (.slice none 0 0) [] := ⟨none, 0, 0, [], rfl, RdK.nil, rfl, All2.nil⟩
/-- element i's two cells -/
theorem ZPI.at {i : Nat} {A : Option Addr} {n c : Nat} (H : ZPI L w (.slice A n c) rs) (hi : i < rs.length) : ∃ b off s A1 n1 c1 r, A = some ⟨b, off, none⟩ ∧ b < w.heap.size ∧ rs[i]? = some r ∧ Hid (s = r.1) ∧
    At w ⟨b, off + i * 2, none⟩ (.bool s) ∧ At w ⟨b, off + i * 2 + 1, none⟩ (.slice A1 n1 c1) ∧ Num w (.slice A1 n1 c1) r.2 L := by
  obtain ⟨A', n', c', hs, e, h1, h2, h3⟩ := H
  injection e with e1 e2 e3
  subst e1 e2 e3
  obtain ⟨b, off, e, hb, hc⟩ := h1.2 (by omega)
  obtain ⟨hd, r, e1, e2, h4, h5⟩ := h3.at hi
  have hf := fun j hj => flat2 zhv zhv_len hs i j hd e1 hj
  refine ⟨b, off, hd.1, hd.2.1, hd.2.2.1, hd.2.2.2, r, e, hb, e2, h4, ⟨?_, hb⟩, ⟨?_, hb⟩, h5⟩
  · have := hf 0 (by omega); rw [Nat.add_zero] at this; rw [hc _ (by omega), this]; rfl
  · rw [Nat.add_assoc, hc _ (by omega), hf 1 (by omega)]; rfl
end
theorem elZ : ElemK Try.prog 43 47 (.agg #[.bool false, .slice none 0 0]) 2 32 := ⟨⟨Try.underlying43, by kernel_rfl⟩, rfl, by omega, by omega⟩
/-- coefficient i of a list -/
def zn (zs : List Int) (i : Nat) : Int := (zs[i]?).getD 0
def zz0 (zs : List Int) (i : Nat) : Bool := decide (zn zs i = 0)
/-- what is left when the zeros behind are taken off -/
def ztl (zs : List Int) : Nat := tlen (zz0 zs) zs.length
def ztr (zs : List Int) : List Int := zs.take (ztl zs)
theorem zn_of {zs : List Int} {i : Nat} {z : Int} (h : zs[i]? = some z) : zn zs i = z := by unfold zn; rw [h]; rfl
theorem ztl_le (zs : List Int) : ztl zs ≤ zs.length := tlen_le _ _
theorem ztr_len (zs : List Int) : (ztr zs).length = ztl zs := by unfold ztr; rw [List.length_take]; have := ztl_le zs; omega
theorem zsgn_zero {z : Int} : zsgn z = 0 ↔ z = 0 := by
  unfold zsgn
  constructor
  · intro h
    split at h
    · assumption
    · split at h <;> omega
  · intro h; rw [if_pos h]
set_option maxHeartbeats 2000000 in
theorem zsize_any {A : Option Addr} {n c L : Nat} {rs : List Zc} {w : World} (h : ZPI L w (.slice A n c) rs) (hL : L ≤ 1099511627776) (hn : n ≤ 1073741824) :
    Calls Try.prog 52 #[.slice A n c] w (Keeps (.int .i64 (ztl (rs.map zv) : Int)) w) := by
  have H := Lib.hid h
  have HL : Hid (n = rs.length) := h.len.1
  have HZL : Hid (ztl (rs.map zv) = tlen (zz0 (rs.map zv)) n) := by show _ = _; unfold ztl; rw [List.length_map, HL.out]
  clear h
  go_enter Try.func52, Try.ntmps52
  go_wp2
  go_loopw [3] (fun kv wr => ∃ (k : Nat), Hid (Below w.heap.size w wr ∧ tlen (zz0 (rs.map zv)) k = tlen (zz0 (rs.map zv)) n) ∧ k ≤ n ∧ kv = .int .i64 (k : Int)) (fun kv _ => (intOf kv).toNat)
  case atStart => exact ⟨n, ⟨Below.refl _ _, rfl⟩, Nat.le_refl _, rfl⟩
  case round =>
    obtain ⟨k, hI, hk, rfl⟩ := hrel
    rcases k with _ | k
    · have HE : Hid (ztl (rs.map zv) = 0) := by rw [HZL.out, ← hI.out.2]; rfl
      go_wp2
      go_ret
      exact ⟨by rw [HE.out]; rfl, hI.out.1⟩
    · obtain ⟨b, off, s, A1, n1, c1, r, e, hb, eq, hs, g0, g1, hnum⟩ := (H.out.below hI.out.1).at (i := k) (by have := HL.out; omega)
      have HQ := Lib.hid eq
      have HN := Lib.hid hnum
      subst e
      obtain rfl := hs.out
      have i1 : (0 : Int) ≤ (k : Int) := by omega
      have i2 : (k : Int) < (n : Int) := by omega
      have x0 := g0.1
      have x1 := g1.1
      have hzz : (rs.map zv)[k]? = some (zv r) := by rw [List.getElem?_map, eq]; rfl
      have HZ := Lib.hid (zn_of hzz)
      clear eq hnum g0 g1 hs hzz
      have C := Lib.hid (zsign_any (s := r.1) HN.out hL)
      rw [show sg r.1 r.2 = zv r from rfl] at C
      by_cases hz : zv r = 0
      · rw [hz, show zsgn 0 = 0 from rfl] at C
        have hT : Hid (tlen (zz0 (rs.map zv)) k = tlen (zz0 (rs.map zv)) n) := by
          rw [← hI.out.2]
          show _ = if zz0 (rs.map zv) k then tlen (zz0 (rs.map zv)) k else k + 1
          rw [if_pos (by unfold zz0; rw [HZ.out]; exact decide_eq_true hz)]
        clear hz
        go_wp2_with fail
        refine C.out.mono ?_
        rintro e w1 ⟨rfl, hb1⟩
        have HB := Lib.hid (bt hI.out.1 hb1)
        clear hb1 x0 x1
        go_wp2
        go_roundw
        case rel => exact ⟨k, ⟨HB.out, hT.out⟩, by omega, by simp⟩
        case measure => simp [intOf]
      · have hT : Hid (ztl (rs.map zv) = k + 1) := by
          rw [HZL.out, ← hI.out.2]
          show (if zz0 (rs.map zv) k then tlen (zz0 (rs.map zv)) k else k + 1) = _
          rw [if_neg (by unfold zz0; rw [HZ.out, decide_eq_false hz]; simp)]
        have d1 : (zsgn (zv r) == 0) = false := by rw [beq_eq_false_iff_ne]; exact fun e => hz (zsgn_zero.1 e)
        generalize zsgn (zv r) = q at C d1
        clear hz
        go_wp2_with fail
        refine C.out.mono ?_
        rintro e w1 ⟨rfl, hb1⟩
        have HB := Lib.hid (bt hI.out.1 hb1)
        clear hb1 x0 x1
        go_wp2
        go_ret
        exact ⟨by rw [hT.out]; rfl, HB.out⟩
theorem zdeg_any {A : Option Addr} {n c L : Nat} {rs : List Zc} {w : World} (h : ZPI L w (.slice A n c) rs) (hL : L ≤ 1099511627776) (hn : n ≤ 1073741824) :
    Calls Try.prog 31 #[.slice A n c] w (Keeps (.int .i64 ((ztl (rs.map zv) : Int) - 1)) w) := by
  have hl := h.len.1
  have C := Lib.hid (zsize_any h hL hn)
  have hle : ztl (rs.map zv) ≤ 1073741824 := by have := ztl_le (rs.map zv); rw [List.length_map] at this; omega
  clear h hl
  generalize ztl (rs.map zv) = k at *
  go_enter Try.func31, Try.ntmps31
  go_wp2_with fail
  refine C.out.mono ?_
  rintro e w1 ⟨rfl, hb⟩
  have HB := Lib.hid hb
  clear hb
  go_wp2
  go_ret
  exact ⟨rfl, HB.out⟩
/-- a new polynomial in its own form -/
def GZP (w : World) (L : Nat) (zs : List Int) (e : Ending) (w' : World) : Prop := ∃ A n c, e = .returned (.slice A n c) ∧ ZPO w.heap.size L w' (.slice A n c) zs ∧ Below w.heap.size w w'
/-- the loops' relation: i coefficients have been made -/
def ZI (B : Nat) (w : World) (L : Nat) (zs : List Int) (A' : Option Addr) (i c' : Nat) (wr : World) : Prop :=
  (∃ hs : List Hz, RowK 2 47 B wr A' i c' (hs.flatMap zhv) ∧ All2 (CanZ B L wr) hs zs) ∧ Below w.heap.size w wr
theorem ZI.below {B : Nat} {w wr w' : World} {L i c' : Nat} {zs : List Int} {A' : Option Addr} (h : ZI B w L zs A' i c' wr) (hb : Below wr.heap.size wr w') : ZI B w L zs A' i c' w' := by
  obtain ⟨⟨hs, h1, h2⟩, h4⟩ := h
  exact ⟨⟨hs, h1.below hb, h2.imp fun _ _ e => e.below hb⟩, bt h4 hb⟩
theorem ZI.grown {B : Nat} {w w' : World} {L i c2 : Nat} {zs : List Int} {A2 : Option Addr} {hs : List Hz} {h : Hz} {z : Int} (ho : RowK 2 47 B w' A2 (i + 1) c2 (hs.flatMap zhv ++ zhv h)) (h2 : All2 (CanZ B L w') hs zs) (hc : CanZ B L w' h z) (hb : Below w.heap.size w w') : ZI B w L (zs ++ [z]) A2 (i + 1) c2 w' := by
  refine ⟨⟨hs ++ [h], by simpa using ho, ?_⟩, hb⟩
  exact h2.snoc hc
theorem ZI.poly {B : Nat} {w wr : World} {L i c' : Nat} {zs : List Int} {A' : Option Addr} (h : ZI B w L zs A' i c' wr) (hi : i = zs.length) : ZPO B L wr (.slice A' i c') zs := by
  obtain ⟨⟨hs, h1, h2⟩, h4⟩ := h
  exact ⟨A', i, c', hs, rfl, h1, hi, h2⟩
/-- append of one integer to a row -/
theorem wpList_appZ1 {B L n c c2 : Nat} {w0 w : World} {A A2 : Option Addr} (h : Hz) {z : Int} {zs : List Int} {ops : Array Oper} {rest : List Oper} {o : Oper} {a : Act} {Q : Exit → Act → World → Prop} (hgd : o.guard = none) (s x : Operand)
    (ho : o.op = .call { callee := .builtin .append, args := #[s, x], argTypes := #[43, 43] })
    (hs : a.eval s = .slice A n c) (hx : a.eval x = .slice A2 1 c2) (H : ZI B w0 L zs A n c w) (hr : RdK 2 w A2 1 c2 (zhv h)) (hb : CanZ B L w h z) (hn : n ≤ 1099511627775) (hB : B ≤ w.heap.size) (hB0 : w0.heap.size ≤ B)
    (hk : ∀ A' c' w', ZI B w0 L (zs ++ [z]) A' (n + 1) c' w' → wpList Try.prog ops Q rest (a.put o.dst (.slice A' (n + 1) c')) w') : wpList Try.prog ops Q (o :: rest) a w := by
  obtain ⟨⟨hs', h1, h2⟩, h3⟩ := H
  refine wpList_appK hgd s x ho elZ hs hx h1 hr (by intro u hu; simp [zhv] at hu; rcases hu with rfl | rfl <;> rfl) (by omega) (by omega) hB ?_
  intro A' c' w' ho' hb' hg
  exact hk A' c' w' (ZI.grown (hs := hs') (h := h) ho' (h2.imp fun _ _ e => e.grown h1 (by decide) hg) (hb.grown h1 (by decide) hg) (h3.trans (hb'.mono hB0)))
set_option maxHeartbeats 2000000 in
theorem zpnorm_any {A : Option Addr} {n c L : Nat} {rs : List Zc} {w : World} (h : ZPI L w (.slice A n c) rs) (hL : L ≤ 1099511627776) (hn : n ≤ 1073741824) :
    Calls Try.prog 21 #[.slice A n c] w (GZP w L (ztr (rs.map zv))) := by
  have H := Lib.hid h
  have HL : Hid (n = rs.length) := h.len.1
  have C := Lib.hid (zsize_any h hL hn)
  have hle : ztl (rs.map zv) ≤ n := by have := ztl_le (rs.map zv); rw [List.length_map] at this; have := HL.out; omega
  obtain ⟨k, hk⟩ : ∃ k, k = ztl (rs.map zv) := ⟨_, rfl⟩
  have HK := Lib.hid hk
  rw [← hk] at C hle
  clear h hk
  go_enter Try.func21, Try.ntmps21
  go_wp2_with fail
  refine C.out.mono ?_
  rintro e w0 ⟨rfl, hb0⟩
  have HB0 := Lib.hid hb0
  clear hb0 C
  go_wp2
  go_loopw [3, 7] (fun ov kv wr => ∃ (i : Nat) (A' : Option Addr) (c' : Nat), Hid (ZI w.heap.size w L ((rs.map zv).take i) A' i c' wr) ∧ i ≤ k ∧ ov = .slice A' i c' ∧ kv = .int .i64 (i : Int)) (fun _ kv _ => k - (intOf kv).toNat)
  case atStart => exact ⟨0, none, 0, ⟨⟨[], RowK.nil, by simpa using All2.nil⟩, HB0.out⟩, Nat.zero_le _, rfl, rfl⟩
  case round =>
    obtain ⟨i, A', c', hI, hi, rfl, rfl⟩ := hrel
    by_cases hlt : i < k
    · obtain ⟨b, off, s, A1, n1, c1, r, e, hb, eq, hs, g0, g1, hnum⟩ := (H.out.below hI.out.2).at (i := i) (by have := HL.out; omega)
      have HQ : Hid ((rs.map zv)[i]? = some (zv r)) := by show _ = _; rw [List.getElem?_map, eq]; rfl
      subst e
      obtain rfl := hs.out
      have i1 : (0 : Int) ≤ (i : Int) := by omega
      have i2 : (i : Int) < (k : Int) := by omega
      have i3 : (i : Int) < (n : Int) := by omega
      have x0 := g0.1
      have x1 := g1.1
      have C := Lib.hid (znorm_any (s := r.1) hnum hL)
      rw [show sg r.1 r.2 = zv r from rfl] at C
      clear eq hnum g0 g1 hs
      go_wp2_with fail
      refine C.out.mono ?_
      rintro e w1 ⟨A3, n3, c3, s3, rfl, hs3, o3, hb1, l3⟩
      have HI1 := Lib.hid (hI.out.below hb1)
      have HC3 : Hid (CanZ w.heap.size L w1 (s3, (A3, n3, c3)) (zv r)) := ⟨hs3.out, o3.mono hI.out.2.size, l3⟩
      clear hb1 o3 x0 x1 hI C hs3
      go_wp2_with (at_builtin; (refine wpList_appZ1 (w0 := w) (s3, (A3, n3, c3)) rfl (.tmp 10) (.tmp 16) rfl rfl rfl (HI1.out.below (belowA _ _)) (RowK.lit (k := 2) (T := 47) (B := 0) w1 1 [.bool s3, .slice A3 n3 c3] (by simp) rfl (by omega) (Nat.zero_le _)).rd (HC3.out.below (belowA _ _)) (by omega) (by have := HI1.out.2.size; simp; omega) (Nat.le_refl _) ?_); intro A4 c4 w4 hz4; have HN : Hid (ZI w.heap.size w L ((rs.map zv).take (i + 1)) A4 (i + 1) c4 w4) := (by rw [take_snoc HQ.out]; exact hz4); clear hz4)
      go_roundw
      case rel => exact ⟨i + 1, A4, c4, HN, by omega, rfl, by go_num⟩
      case measure => simp [intOf]; omega
    · obtain rfl : i = k := by omega
      have HR : Hid (ZPO w.heap.size L wr (.slice A' i c') (ztr (rs.map zv)) ∧ Below w.heap.size w wr) := by
        refine ⟨?_, hI.out.2⟩
        unfold ztr
        rw [← HK.out]
        exact hI.out.poly (by rw [List.length_take, List.length_map]; have := HL.out; omega)
      clear hI
      go_wp2
      go_ret
      exact ⟨A', i, c', rfl, HR.out.1, HR.out.2⟩
end Go.Proofs.Ytphofjinncbaaaa
namespace Go.Proofs.Ytphofjinncbaaaa
open Go.RowKit
set_option linter.unusedVariables false
set_option linter.unusedSimpArgs false

def GAt (w : World) (L : Nat) (z : Int) (e : Ending) (w' : World) : Prop := ∃ s A n c x, e = .returned (.agg #[.bool s, .slice A n c]) ∧ Num w' (.slice A n c) x L ∧ Hid (sg s x = z) ∧ Below w.heap.size w w'
theorem num_nil {w : World} {L : Nat} : Num w (.slice none 0 0) 0 L := ⟨none, 0, 0, [], rfl, Rd.nil, (by intro x hx; simp at hx), rfl, Nat.zero_le _⟩
set_option maxHeartbeats 1000000 in
theorem zat_any {A : Option Addr} {n c L i : Nat} {rs : List Zc} {w : World} (h : ZPI L w (.slice A n c) rs) (hn : n ≤ 1073741824) (hin : i ≤ 1073741824) :
    Calls Try.prog 92 #[.slice A n c, .int .i64 (i : Int)] w (GAt w L (zn (rs.map zv) i)) := by
  have H := Lib.hid h
  have HL : Hid (n = rs.length) := h.len.1
  clear h
  have d1 : decide ((i : Int) < 0) = false := decide_eq_false (by omega)
  go_enter Try.func92, Try.ntmps92
  have c1 := (Cel.box (i := 0) (v := .bool false) (t := 47) (b := w.heap.size) w #[.bool false, .slice none 0 0] rfl (by simp))
  have c2 := (Cel.box (i := 1) (v := .slice none 0 0) (t := 47) (b := w.heap.size) w #[.bool false, .slice none 0 0] rfl (by simp))
  obtain ⟨c1a, c1b, c1c⟩ := c1
  obtain ⟨c2a, c2b, c2c⟩ := c2
  by_cases hlt : i < n
  · obtain ⟨b, off, s, A1, n1, c1, r, e, hb, eq, hs, g0, g1, hnum⟩ := H.out.at (i := i) (by have := HL.out; omega)
    have HQ : Hid (zn (rs.map zv) i = zv r) := zn_of (by rw [List.getElem?_map, eq]; rfl)
    have HN := Lib.hid hnum
    subst e
    obtain rfl := hs.out
    have i1 : (0 : Int) ≤ (i : Int) := by omega
    have i2 : (i : Int) < (n : Int) := by omega
    have d2 : decide ((n : Int) ≤ (i : Int)) = false := decide_eq_false (by omega)
    have x0 := (g0.below (belowA w (.cells #[.bool false, .slice none 0 0] 47))).1
    have x1 := (g1.below (belowA w (.cells #[.bool false, .slice none 0 0] 47))).1
    clear g0 g1 hnum eq hs
    have HB := Lib.hid (belowA w (.cells #[.bool false, .slice none 0 0] 47))
    go_wp2
    refine bodyPost_ret (v := .agg #[.bool r.1, .slice A1 n1 c1]) (by simp [results, Try.results92, go_sem, c1a, c2a]) rfl ?_
    have HB2 := belowA w (.cells #[.bool r.1, .slice A1 n1 c1] 47)
    exact ⟨r.1, A1, n1, c1, r.2, rfl, HN.out.below HB2, HQ.out.symm, HB2⟩
  · have HQ : Hid (zn (rs.map zv) i = 0) := by
      show _ = _
      unfold zn
      rw [List.getElem?_eq_none (by rw [List.length_map]; have := HL.out; omega)]; rfl
    have d2 : decide ((n : Int) ≤ (i : Int)) = true := decide_eq_true (by omega)
    have HB := Lib.hid (belowA w (.cells #[.bool false, .slice none 0 0] 47))
    go_wp2
    refine bodyPost_ret (v := .agg #[.bool false, .slice none 0 0]) (by simp [results, Try.results92, go_sem, c1a, c2a]) rfl ?_
    have HB2 := belowA w (.cells #[.bool false, .slice none 0 0] 47)
    exact ⟨false, none, 0, 0, 0, rfl, num_nil, HQ.out.symm, HB2⟩
/-- make of a row of zeros -/
theorem madeZ (n : Nat) : (madeCells (Value.agg #[.bool false, .slice none 0 0]).cells (n * 2)).toList = (List.replicate n ((false, (none, 0, 0)) : Hz)).flatMap zhv := by
  refine List.ext_getElem? fun j => ?_
  rcases Nat.lt_or_ge j (n * 2) with hj | hj
  · have h1 : j / 2 < n := by omega
    have hf := flat2 zhv zhv_len (List.replicate n ((false, (none, 0, 0)) : Hz)) (j / 2) (j % 2) (false, (none, 0, 0)) (by rw [List.getElem?_replicate, if_pos h1]) (by omega)
    rw [show j / 2 * 2 + j % 2 = j by omega] at hf
    rw [hf, Array.getElem?_toList]
    have hsz : j < (madeCells (Value.agg #[.bool false, .slice none 0 0]).cells (n * 2)).size := by rw [size_madeCells]; exact hj
    rw [Array.getElem?_eq_getElem hsz]
    have hc : (Value.agg #[.bool false, .slice none 0 0]).cells = #[.bool false, .slice none 0 0] := by kernel_rfl
    simp only [hc, madeCells, Array.getElem_map, Array.getElem_range]
    rcases Nat.mod_two_eq_zero_or_one j with h | h <;> simp [h, zhv, shv]
  · rw [List.getElem?_eq_none (by rw [Array.length_toList, size_madeCells]; exact hj), List.getElem?_eq_none (by rw [flat2_len zhv zhv_len, List.length_replicate]; exact hj)]
theorem canz_zero {B L : Nat} {w : World} : CanZ B L w (false, (none, 0, 0)) 0 := ⟨rfl, by rw [show (0 : Int).natAbs = 0 from rfl, dg_zero W_gt]; exact Own.nil, Nat.zero_le _⟩
theorem wpList_mkZ {w : World} {ops : Array Oper} {rest : List Oper} {o : Oper} {a : Act} {Q : Exit → Act → World → Prop} (hg : o.guard = none) (l c : Operand) (hop : o.op = Op.makeSlice 43 l c)
    (n : Nat) {kl kc : IntKind} {L C : Int} (hl : a.eval l = .int kl L) (hc : a.eval c = .int kc C) (hL : L = (n : Int)) (hC : C = (n : Int)) (hn : n ≤ 1073741824)
    (hK : ∀ w', ZPO w.heap.size 0 w' (.slice (some ⟨w.heap.size, 0, none⟩) n n) (List.replicate n 0) → Below w.heap.size w w' → wpList Try.prog ops Q rest (a.put o.dst (.slice (some ⟨w.heap.size, 0, none⟩) n n)) w') :
    wpList Try.prog ops Q (o :: rest) a w := by
  obtain ⟨⟨hT, hinfo⟩, hzs, hk, hby⟩ := elZ
  obtain ⟨i, hi, hz, hs, hb⟩ := info_parts hinfo
  refine wpList_make_full w hg l c 43 hop w.heap.size 47 i (.agg #[.bool false, .slice none 0 0]) 2 hT hi hz hs kl kc L C n hl hc hL hC (by rw [hb]; omega) (by simp only [maxLen]; omega) (Nat.le_refl _) fun w' ho hgr => ?_
  refine hK w' ?_ ((Below.refl _ _).grown hgr (Nat.le_refl _) (fun k hk => by cases hk))
  rw [madeZ] at ho
  refine ⟨_, n, n, List.replicate n (false, (none, 0, 0)), rfl, ho, by rw [List.length_replicate], by rw [List.length_replicate, List.length_replicate], fun i h z e1 e2 => ?_⟩
  rw [List.getElem?_replicate] at e1 e2
  split at e1
  · rw [if_pos (by assumption)] at e2
    injection e1 with e1
    injection e2 with e2
    subst e1 e2
    exact canz_zero
  · cases e1
theorem flatz_set : ∀ (l : List Hz) (j : Nat) (x : Hz), ((l.flatMap zhv).set (j * 2) (.bool x.1)).set (j * 2 + 1) (shv x.2) = (l.set j x).flatMap zhv
  | [], j, x => by simp
  | y :: l, 0, x => by simp [zhv]
  | y :: l, j + 1, x => by
    rw [List.flatMap_cons, List.set_cons_succ, List.flatMap_cons, ← flatz_set l j x]
    have e1 : (zhv y).length = 2 := rfl
    rw [List.set_append_right _ _ (by rw [e1]; omega), List.set_append_right _ _ (by rw [e1]; omega), e1]
    congr 2
    · congr 1; omega
    · omega
theorem all2_setz {P : Hz → Int → Prop} {hs : List Hz} {zs : List Int} {h : Hz} {z : Int} (H : All2 P hs zs) (j : Nat) (hp : P h z) : All2 P (hs.set j h) (zs.set j z) := by
  refine ⟨by rw [List.length_set, List.length_set, H.1], fun i a b e1 e2 => ?_⟩
  rw [List.getElem?_set] at e1 e2
  by_cases hji : j = i
  · rw [if_pos hji] at e1 e2
    split at e1
    · split at e2
      · injection e1 with e1
        injection e2 with e2
        subst e1 e2
        exact hp
      · cases e2
    · cases e1
  · rw [if_neg hji] at e1 e2
    exact H.2 i a b e1 e2
/-- element i is written -/
theorem ZPO.put {B L n c i g : Nat} {w : World} {zs : List Int} {h : Hz} {z : Int} (H : ZPO B L w (.slice (some ⟨g, 0, none⟩) n c) zs) (hb : CanZ B L w h z) :
    ZPO B L ((w.setCell ⟨g, i * 2, none⟩ (.bool h.1)).setCell ⟨g, i * 2 + 1, none⟩ (shv h.2)) (.slice (some ⟨g, 0, none⟩) n c) (zs.set i z) ∧ w.grownBy ((w.setCell ⟨g, i * 2, none⟩ (.bool h.1)).setCell ⟨g, i * 2 + 1, none⟩ (shv h.2)) (some g) := by
  obtain ⟨_, _, _, hs, e, h1, h2, h3⟩ := H
  injection e with e1 e2 e3
  subst e1 e2 e3
  have s1 := World.ownsRow.stored (j := i * 2) (u := .bool h.1) h1
  have s2 := World.ownsRow.stored (j := i * 2 + 1) (u := shv h.2) s1.1
  have g1 : ∀ h' z', CanZ B L w h' z' → CanZ B L ((w.setCell ⟨g, i * 2, none⟩ (.bool h.1)).setCell ⟨g, i * 2 + 1, none⟩ (shv h.2)) h' z' := fun h' z' e => (e.grown h1 (by decide) s1.2).grown s1.1 (by decide) s2.2
  refine ⟨⟨_, n, c, hs.set i h, rfl, ?_, by rw [List.length_set]; exact h2, all2_setz (h3.imp g1) i (g1 _ _ hb)⟩, World.grownBy.trans s1.2 s2.2⟩
  rw [← flatz_set hs i h]
  exact s2.1
theorem ZPO.slot {B L n c i g : Nat} {w : World} {zs : List Int} (H : ZPO B L w (.slice (some ⟨g, 0, none⟩) n c) zs) (hi : i < n) : B ≤ g ∧ g < w.heap.size ∧ ∃ d0 d1, w.cell? ⟨g, i * 2, none⟩ = some d0 ∧ w.cell? ⟨g, i * 2 + 1, none⟩ = some d1 ∧ w.frozen? ⟨g, i * 2, none⟩ = false ∧ w.frozen? ⟨g, i * 2 + 1, none⟩ = false := by
  obtain ⟨_, _, _, hs, e, h1, h2, h3⟩ := H
  injection e with e1 e2 e3
  subst e1 e2 e3
  obtain ⟨g', eg, hg1, hg2⟩ := h1.form (by omega)
  injection eg with eg
  injection eg with eg
  subst eg
  have y0 := h1.cell (i := i * 2) (by omega)
  have y1 := h1.cell (i := i * 2 + 1) (by omega)
  have hl2 : (hs.flatMap zhv).length = n * 2 := h1.len
  rw [List.getElem?_eq_getElem (by omega)] at y0 y1
  exact ⟨hg1, hg2, _, _, y0, y1, h1.frozen, h1.frozen⟩
theorem ZPO.monoL {B L L' : Nat} {w : World} {v : Value} {zs : List Int} (H : ZPO B L w v zs) (hL : L ≤ L') : ZPO B L' w v zs := by
  obtain ⟨A, n, c, hs, e, h1, h2, h3⟩ := H
  exact ⟨A, n, c, hs, e, h1, h2, h3.imp fun _ _ e => ⟨e.1, e.2.1, Nat.le_trans e.2.2 hL⟩⟩
/-- the sum, coefficient by coefficient -/
def zaddl (a b : List Int) : List Int := (List.range (max a.length b.length)).map fun i => zn a i + zn b i
/-- the sums up to i, then zeros -/
def zaddi (a b : List Int) (N i : Nat) : List Int := (List.range N).map fun j => if j < i then zn a j + zn b j else 0
theorem zaddi_zero (a b : List Int) (N : Nat) : zaddi a b N 0 = List.replicate N 0 := by
  unfold zaddi
  refine List.ext_getElem (by simp) fun j h1 h2 => by simp
theorem zaddi_all (a b : List Int) (N : Nat) : zaddi a b N N = (List.range N).map fun i => zn a i + zn b i := by
  unfold zaddi
  refine List.map_congr_left fun j hj => ?_
  rw [if_pos (List.mem_range.1 hj)]
theorem zaddi_step (a b : List Int) (N i : Nat) : (zaddi a b N i).set i (zn a i + zn b i) = zaddi a b N (i + 1) := by
  unfold zaddi
  refine List.ext_getElem (by simp) fun j h1 h2 => ?_
  rw [List.getElem_set]
  simp only [List.getElem_map, List.getElem_range]
  split
  · rename_i e; subst e; rw [if_pos (by omega)]
  · rename_i e
    by_cases hj : j < i
    · rw [if_pos hj, if_pos (by omega)]
    · rw [if_neg hj, if_neg (by omega)]
set_option maxHeartbeats 4000000 in
theorem zpadd_any {A A2 : Option Addr} {n c n2 c2 L M : Nat} {rs rs2 : List Zc} {w : World} (h : ZPI L w (.slice A n c) rs) (h2 : ZPI M w (.slice A2 n2 c2) rs2) (hL : L ≤ 8589934592) (hM : M ≤ 8589934592) (hn : n ≤ 1048576) (hn2 : n2 ≤ 1048576) :
    Calls Try.prog 62 #[.slice A n c, .slice A2 n2 c2] w (GZP w (max L M + 1) (ztr (zaddl (rs.map zv) (rs2.map zv)))) := by
  have H := Lib.hid h
  have H2 := Lib.hid h2
  have HL : Hid (n = rs.length) := h.len.1
  have HL2 : Hid (n2 = rs2.length) := h2.len.1
  clear h h2
  have hmx := fun (ts : Array TypeId) (t : TypeId) => run_max2 (P := Try.prog) ts t n n2 w
  obtain ⟨N, hN⟩ : ∃ N, N = max n n2 := ⟨_, rfl⟩
  rw [← hN] at hmx
  have hNb : N ≤ 1048576 := by omega
  have HNN : Hid (N = max (rs.map zv).length (rs2.map zv).length) := by show _ = _; rw [List.length_map, List.length_map, ← HL.out, ← HL2.out]; exact hN
  clear hN
  obtain ⟨K, hK⟩ : ∃ K, K = max L M + 1 := ⟨_, rfl⟩
  rw [← hK]
  have hKb : K ≤ 8589934593 := by omega
  have HK := Lib.hid hK
  clear hK
  go_enter Try.func62, Try.ntmps62
  go_wp2_with (at_make; refine wpList_mkZ rfl (.tmp 11) (.tmp 11) rfl N rfl rfl rfl rfl (by omega) ?_; intro w1 ho1 hb1)
  have HO : Hid (ZPO w.heap.size K w1 (.slice (some ⟨w.heap.size, 0, none⟩) N N) (zaddi (rs.map zv) (rs2.map zv) N 0) ∧ Below w.heap.size w w1) := ⟨by rw [zaddi_zero]; exact ho1.monoL (Nat.zero_le _), hb1⟩
  clear ho1 hb1 hmx
  go_wp2
  go_loopw [15] (fun kv wr => ∃ (i : Nat), Hid (ZPO w.heap.size K wr (.slice (some ⟨w.heap.size, 0, none⟩) N N) (zaddi (rs.map zv) (rs2.map zv) N i) ∧ Below w.heap.size w wr) ∧ i ≤ N ∧ kv = .int .i64 (i : Int)) (fun kv _ => N - (intOf kv).toNat)
  case atStart => exact ⟨0, HO, Nat.zero_le _, rfl⟩
  case round =>
    obtain ⟨i, hI, hi, rfl⟩ := hrel
    by_cases hlt : i < N
    · have C1 := Lib.hid (zat_any (i := i) (H.out.below hI.out.2) (by omega) (by omega))
      have i1 : (0 : Int) ≤ (i : Int) := by omega
      have i2 : (i : Int) < (N : Int) := by omega
      go_wp2_with fail
      refine C1.out.mono ?_
      rintro e w2 ⟨s, A3, n3, c3, x, rfl, hn3, hs3, hb2⟩
      have HB2 := Lib.hid (bt hI.out.2 hb2)
      have C2 := Lib.hid (zat_any (i := i) (H2.out.below HB2.out) (by omega) (by omega))
      have HN3 := Lib.hid hn3
      have HI2 := Lib.hid (hI.out.1.below hb2)
      clear hn3 hb2 C1 hI
      go_wp2_with fail
      refine C2.out.mono ?_
      rintro e w3 ⟨s4, A4, n4, c4, x4, rfl, hn4, hs4, hb3⟩
      have HB3 := Lib.hid (bt HB2.out hb3)
      have C3 := Lib.hid (zadd_any (s := s) (t := s4) (HN3.out.below hb3) hn4 hL hM)
      rw [hs3.out, hs4.out, ← HK.out] at C3
      have HI3 := Lib.hid (HI2.out.below hb3)
      clear hn4 hb3 C2 HI2 HN3
      go_wp2_with fail
      refine C3.out.mono ?_
      rintro e w4 ⟨A5, n5, c5, s5, rfl, hs5, o5, hb4, l5⟩
      have HB4 := Lib.hid (bt HB3.out hb4)
      have HI4 := Lib.hid (HI3.out.below hb4)
      have HC : Hid (CanZ w.heap.size K w4 (s5, (A5, n5, c5)) (zn (rs.map zv) i + zn (rs2.map zv) i)) := ⟨hs5.out, o5.mono HB3.out.size, l5⟩
      clear hs5 o5 hb4 C3 HI3
      obtain ⟨hg1, hg2, d0, d1, y0, y1, z0, z1⟩ := HI4.out.slot hlt
      have HR := Lib.hid (HI4.out.put (i := i) HC.out)
      have HN : Hid (ZPO w.heap.size K ((w4.setCell ⟨w.heap.size, i * 2, none⟩ (.bool s5)).setCell ⟨w.heap.size, i * 2 + 1, none⟩ (.slice A5 n5 c5)) (.slice (some ⟨w.heap.size, 0, none⟩) N N) (zaddi (rs.map zv) (rs2.map zv) N (i + 1)) ∧ Below w.heap.size w ((w4.setCell ⟨w.heap.size, i * 2, none⟩ (.bool s5)).setCell ⟨w.heap.size, i * 2 + 1, none⟩ (.slice A5 n5 c5))) :=
        ⟨by rw [← zaddi_step]; exact HR.out.1, (HB4.out.setCell (p := ⟨w.heap.size, i * 2, none⟩) (Nat.le_refl _) _).setCell (p := ⟨w.heap.size, i * 2 + 1, none⟩) (Nat.le_refl _) _⟩
      clear hg1 HR
      go_wp2
      go_roundw
      case rel => exact ⟨i + 1, HN, by omega, by go_num⟩
      case measure => simp [intOf]; omega
    · obtain rfl : i = N := by omega
      have C := Lib.hid (zpnorm_any hI.out.1.c.inp (by omega) (by omega))
      have HB := Lib.hid hI.out.2
      have HE : Hid (ztr (((zaddi (rs.map zv) (rs2.map zv) i i).map zco).map zv) = ztr (zaddl (rs.map zv) (rs2.map zv))) := by
        show _ = _
        rw [List.map_map]
        congr 1
        refine (List.map_congr_left fun z _ => zv_zco z).trans ((List.map_id _).trans ?_)
        rw [zaddi_all]
        unfold zaddl
        rw [← HNN.out]
      rw [HE.out] at C
      clear hI
      go_wp2_with fail
      refine C.out.mono ?_
      rintro e w5 ⟨A5, n5, c5, rfl, hp5, hb5⟩
      have HR := Lib.hid (And.intro (hp5.mono HB.out.size) (bt HB.out hb5))
      clear hp5 hb5
      go_wp2
      go_ret
      exact ⟨A5, n5, c5, rfl, HR.out.1, HR.out.2⟩
end Go.Proofs.Ytphofjinncbaaaa
namespace Go.Proofs.Ytphofjinncbaaaa
open Go.RowKit
set_option linter.unusedVariables false
set_option linter.unusedSimpArgs false

theorem zvc (zs : List Int) : (zs.map zco).map zv = zs := by
  rw [List.map_map]
  exact (List.map_congr_left fun z _ => zv_zco z).trans (List.map_id _)
/-- v is added to coefficient k -/
def madd (out : List Int) (k : Nat) (v : Int) : List Int := out.set k (zn out k + v)
/-- j products of a row -/
def mrow (out : List Int) (x : Int) (b : List Int) (i : Nat) : Nat → List Int
  | 0 => out
  | j + 1 => madd (mrow out x b i j) (i + j) (x * zn b j)
/-- i rows -/
def mall (a b : List Int) (N : Nat) : Nat → List Int
  | 0 => List.replicate N 0
  | i + 1 => mrow (mall a b N i) (zn a i) b i b.length
def zmull (a b : List Int) : List Int := mall a b (a.length + b.length - 1) a.length
theorem mrow_len (out : List Int) (x : Int) (b : List Int) (i : Nat) : ∀ j, (mrow out x b i j).length = out.length
  | 0 => rfl
  | j + 1 => by unfold mrow madd; rw [List.length_set]; exact mrow_len out x b i j
theorem mall_len (a b : List Int) (N : Nat) : ∀ i, (mall a b N i).length = N
  | 0 => by simp [mall]
  | i + 1 => by unfold mall; rw [mrow_len]; exact mall_len a b N i
theorem ztr_zeros (n : Nat) : ztr (List.replicate n 0) = [] := by
  have h : ∀ k, k ≤ n → tlen (zz0 (List.replicate n 0)) k = 0 := by
    intro k hk
    induction k with
    | zero => rfl
    | succ k ih =>
      unfold tlen
      rw [if_pos]
      · exact ih (by omega)
      · unfold zz0 zn
        rw [List.getElem?_replicate, if_pos (by omega)]
        simp
  unfold ztr ztl
  rw [List.length_replicate, h n (Nat.le_refl _)]
  rfl
theorem mall_nil (a : List Int) (N : Nat) : ∀ i, mall a [] N i = List.replicate N 0
  | 0 => rfl
  | i + 1 => by unfold mall; exact mall_nil a N i
theorem ZPO.head {B L n c i : Nat} {A : Option Addr} {w : World} {zs : List Int} (H : ZPO B L w (.slice A n c) zs) (hi : i < n) : ∃ g s A1 n1 c1, A = some ⟨g, 0, none⟩ ∧ Hid (s = decide (zn zs i < 0)) ∧ At w ⟨g, i * 2, none⟩ (.bool s) ∧ At w ⟨g, i * 2 + 1, none⟩ (.slice A1 n1 c1) ∧ Num w (.slice A1 n1 c1) (zn zs i).natAbs L := by
  have hl := H.len
  obtain ⟨_, _, _, hs, e, h1, h2, h3⟩ := id H
  injection e with e1 e2 e3
  subst e1 e2 e3
  obtain ⟨g, eg, hg1, hg2⟩ := h1.form (by omega)
  subst eg
  obtain ⟨b, off, s, A1, n1, c1, r, e, hb, eq, hs', g0, g1, hnum⟩ := H.c.inp.at (i := i) (by rw [List.length_map]; omega)
  injection e with e
  injection e with e1 e2
  subst e1 e2
  rw [List.getElem?_map] at eq
  obtain ⟨z, e3, e4⟩ := Option.map_eq_some_iff.1 eq
  subst e4
  rw [Nat.zero_add] at g0 g1
  rw [zn_of e3]
  exact ⟨g, s, A1, n1, c1, rfl, hs', g0, g1, hnum⟩
set_option maxHeartbeats 8000000 in
set_option maxRecDepth 100000 in
theorem zpmul_any {A A2 : Option Addr} {n c n2 c2 L M K : Nat} {rs rs2 : List Zc} {w : World} (h : ZPI L w (.slice A n c) rs) (h2 : ZPI M w (.slice A2 n2 c2) rs2) (hL : L ≤ 4294967296) (hM : M ≤ 4294967296) (hKb : K ≤ 8589934592) (hn : n ≤ 1048576) (hn2 : n2 ≤ 1048576)
    (hK : ∀ i j, i < (ztr (rs.map zv)).length → j ≤ (ztr (rs2.map zv)).length → ∀ z ∈ mrow (mall (ztr (rs.map zv)) (ztr (rs2.map zv)) ((ztr (rs.map zv)).length + (ztr (rs2.map zv)).length - 1) i) (zn (ztr (rs.map zv)) i) (ztr (rs2.map zv)) i j, z.natAbs < W ^ K) :
    Calls Try.prog 63 #[.slice A n c, .slice A2 n2 c2] w (GZP w K (ztr (zmull (ztr (rs.map zv)) (ztr (rs2.map zv))))) := by
  have C1 := Lib.hid (zpnorm_any h (by omega) (by omega))
  have H2 := Lib.hid h2
  have hla : (ztr (rs.map zv)).length ≤ 1048576 := by rw [ztr_len]; have h1 := ztl_le (rs.map zv); rw [List.length_map] at h1; have := h.len.1; omega
  have hlb : (ztr (rs2.map zv)).length ≤ 1048576 := by rw [ztr_len]; have h1 := ztl_le (rs2.map zv); rw [List.length_map] at h1; have := h2.len.1; omega
  have C2 := Lib.hid fun w' (hb : Below w.heap.size w w') => zpnorm_any (h2.below hb) (by omega) (by omega)
  clear h h2
  generalize ztr (rs.map zv) = us at *
  generalize ztr (rs2.map zv) = vs at *
  have HK := Lib.hid hK
  clear hK
  go_enter Try.func63, Try.ntmps63
  go_wp2_with fail
  refine C1.out.mono ?_
  rintro e wa ⟨A3, n3, c3, rfl, p3, hba⟩
  have HB1 := Lib.hid hba
  have P3 := Lib.hid p3
  clear hba p3 C1
  go_wp2_with fail
  refine (C2.out _ HB1.out).mono ?_
  rintro e wb ⟨A4, n4, c4, rfl, p4, hbb⟩
  have HB2 := Lib.hid (bt HB1.out hbb)
  have PA := Lib.hid (P3.out.below hbb)
  have PB := Lib.hid (p4.mono HB1.out.size)
  have HNA : Hid (n3 = us.length) := PA.out.len
  have HNB : Hid (n4 = vs.length) := PB.out.len
  have ha3 : n3 ≤ 1048576 := by have := HNA.out; omega
  have hb4 : n4 ≤ 1048576 := by have := HNB.out; omega
  clear hbb p4 C2 P3
  by_cases h30 : n3 = 0
  · have HR : Hid (ztr (zmull us vs) = []) := by
      show _ = _
      have : us = [] := List.eq_nil_of_length_eq_zero (by have := HNA.out; omega)
      subst this
      exact ztr_zeros _
    subst h30
    go_wp2
    go_ret
    exact ⟨none, 0, 0, rfl, by rw [HR.out]; exact ZPO.nil, HB2.out⟩
  · have e3 : ((n3 : Int) == 0) = false := by rw [beq_eq_false_iff_ne]; omega
    by_cases h40 : n4 = 0
    · have HR : Hid (ztr (zmull us vs) = []) := by
        show _ = _
        have : vs = [] := List.eq_nil_of_length_eq_zero (by have := HNB.out; omega)
        subst this
        unfold zmull
        rw [mall_nil]
        exact ztr_zeros _
      subst h40
      go_wp2
      go_ret
      exact ⟨none, 0, 0, rfl, by rw [HR.out]; exact ZPO.nil, HB2.out⟩
    · have e4 : ((n4 : Int) == 0) = false := by rw [beq_eq_false_iff_ne]; omega
      obtain ⟨N, hN⟩ : ∃ N, N = n3 + n4 - 1 := ⟨_, rfl⟩
      have hNi : (n3 : Int) + (n4 : Int) - 1 = (N : Int) := by omega
      have hNb : N ≤ 2097152 := by omega
      have HNN : Hid (N = us.length + vs.length - 1) := by rw [← HNA.out, ← HNB.out]; exact hN
      have HNS := Lib.hid hN
      clear hN
      go_wp2_with (at_make; refine wpList_mkZ rfl (.tmp 25) (.tmp 25) rfl N rfl rfl (by omega) (by omega) (by omega) ?_; intro w5 ho5 hb5)
      have HO : Hid (Below wb.heap.size wb w5 ∧ ZPO wb.heap.size K w5 (.slice (some ⟨wb.heap.size, 0, none⟩) N N) (mall us vs N 0)) := ⟨hb5, ho5.monoL (Nat.zero_le _)⟩
      clear ho5 hb5
      go_loopw [29] (fun kv wr => ∃ (i : Nat), Hid (Below wb.heap.size wb wr ∧ ZPO wb.heap.size K wr (.slice (some ⟨wb.heap.size, 0, none⟩) N N) (mall us vs N i)) ∧ i ≤ n3 ∧ kv = .int .i64 (i : Int)) (fun kv _ => n3 - (intOf kv).toNat)
      case atStart => exact ⟨0, HO, Nat.zero_le _, rfl⟩
      case round =>
        obtain ⟨i, hI, hi, rfl⟩ := hrel
        by_cases hlt : i < n3
        · have HI0 := Lib.hid hI.out
          have hlt0 : (i : Int) < (n3 : Int) := by omega
          clear hI
          go_wp2
          go_loopw [34] (fun jv wj => ∃ (j : Nat), Hid (Below wb.heap.size wb wj ∧ ZPO wb.heap.size K wj (.slice (some ⟨wb.heap.size, 0, none⟩) N N) (mrow (mall us vs N i) (zn us i) vs i j)) ∧ j ≤ n4 ∧ jv = .int .i64 (j : Int)) (fun jv _ => n4 - (intOf jv).toNat)
          case atStart => exact ⟨0, HI0, Nat.zero_le _, rfl⟩
          case round =>
            obtain ⟨j, hI, hj, rfl⟩ := hrel
            by_cases hlt2 : j < n4
            · obtain ⟨k, hk⟩ : ∃ k, k = i + j := ⟨_, rfl⟩
              have hkN : k < N := by have := HNS.out; omega
              have hk1 : IntKind.i64.wrap (k : Int) = (k : Int) := by rw [IntKind.wrap_i64]; omega
              have hk2 : (i : Int) + (j : Int) = (k : Int) := by omega
              have HKK := Lib.hid hk
              clear hk
              obtain ⟨g0', s0, A5, n5, c5, eg, hs0, f0, f1, hn0⟩ := hI.out.2.head hkN
              injection eg with eg
              injection eg with eg
              subst eg
              obtain ⟨ga, s1, A6, n6, c6, ega, hs1, g0, g1, hn1⟩ := (PA.out.below hI.out.1).head hlt
              obtain ⟨gb, s2, A7, n7, c7, egb, hs2, k0, k1, hn2'⟩ := (PB.out.below hI.out.1).head hlt2
              subst ega egb
              have i1 : (0 : Int) ≤ (i : Int) := by omega
              have j1 : (0 : Int) ≤ (j : Int) := by omega
              have j2 : (j : Int) < (n4 : Int) := by omega
              have q1 : (0 : Int) ≤ (k : Int) := by omega
              have q2 : (k : Int) < (N : Int) := by omega
              have HN0 := Lib.hid hn0
              have HN1 := Lib.hid hn1
              have HN2 := Lib.hid hn2'
              clear hn0 hn1 hn2'
              have HMB : Hid (madd (mrow (mall us vs N i) (zn us i) vs i j) k (zn us i * zn vs j) = mrow (mall us vs N i) (zn us i) vs i (j + 1)) := by
                show _ = _
                rw [HKK.out]; rfl
              go_wp2_with fail
              have e_f0 := f0.1
              have g_f0 := At.grow (p := _) ⟨f0.1, f0.2⟩
              have e_f1 := f1.1
              have g_f1 := At.grow (p := _) ⟨f1.1, f1.2⟩
              have e_g0 := g0.1
              have g_g0 := At.grow (p := _) ⟨g0.1, g0.2⟩
              have e_g1 := g1.1
              have g_g1 := At.grow (p := _) ⟨g1.1, g1.2⟩
              have e_k0 := k0.1
              have g_k0 := At.grow (p := _) ⟨k0.1, k0.2⟩
              have e_k1 := k1.1
              have g_k1 := At.grow (p := _) ⟨k1.1, k1.2⟩
              refine wp_region_stores [(0, 0), (0, 1), (0, 2), (0, 3), (0, 4), (0, 5), (0, 6), (0, 7), (0, 8), (0, 9), (0, 10), (0, 11), (0, 12), (0, 13), (0, 14), (0, 15), (0, 16), (0, 17), (1, 18), (1, 19), (0, 20), (2, 21)] (by kernel_rfl) (by kernel_rfl) ?_
              repeat (first | (refine sord_pas (by rfl) (fun K hK => ?_); go_simp; refine hK _ _ (fun w' hw' => (by first | (go_simp; done) | (go_simp; intro hh; cases hh))) ?_; clear hK K) | (refine sord_pasT (by rfl) (fun K hK => ?_); go_simp; refine hK _ _ (fun w' hw' => (by first | (go_simp; done) | (go_simp; intro hh; cases hh))) ?_; clear hK K))
              (refine sord_call (by rfl) (fun K hK => ?_); go_simp; refine hK _ _ ?_; clear hK K)
              refine (zmul_any (s := s1) (t := s2) (HN1.out.below (Below.refl _ _).drew) (HN2.out.below (Below.refl _ _).drew) (by omega) (by omega)).mono ?_
              rintro e w1 ⟨A_p, n_p, c_p, s_p, rfl, hs_p, o_p, hb1, l_p⟩
              refine ⟨_, rfl, Grow.of_below hb1, ?_⟩
              (refine sord_norm (fun K hK => ?_); go_simp; refine hK _ ?_; clear hK K)
              (refine sord_call (by rfl) (fun K hK => ?_); go_simp; refine hK _ _ ?_; clear hK K)
              refine (zadd_any (s := s0) (t := s_p) ((HN0.out.below (Below.refl _ _).drew).below hb1) (o_p.num l_p) (by omega) (by omega)).mono ?_
              rintro e w2 ⟨A_q, n_q, c_q, s_q, rfl, hs_q, o_q, hb2, l_q⟩
              refine ⟨_, rfl, Grow.of_below hb2, ?_⟩
              (refine sord_norm (fun K hK => ?_); go_simp; refine hK _ ?_; clear hK K)
              repeat (first | (refine sord_pas (by rfl) (fun K hK => ?_); go_simp; refine hK _ _ (fun w' hw' => (by first | (go_simp; done) | (go_simp; intro hh; cases hh))) ?_; clear hK K) | (refine sord_pasT (by rfl) (fun K hK => ?_); go_simp; refine hK _ _ (fun w' hw' => (by first | (go_simp; done) | (go_simp; intro hh; cases hh))) ?_; clear hK K))
              have HB6 := Lib.hid (bt hI.out.1 (bt (bt (Below.refl _ _).drew hb1) hb2))
              have HI6 := Lib.hid (hI.out.2.below (bt (bt (Below.refl _ _).drew hb1) hb2))
              have OQ := Lib.hid (((o_q.mono (bt (Below.refl _ _).drew hb1).size)).mono hI.out.1.size)
              have HV : Hid (sg s0 (zn (mrow (mall us vs N i) (zn us i) vs i j) k).natAbs + sg s_p (sg s1 (zn us i).natAbs * sg s2 (zn vs j).natAbs).natAbs = zn (mrow (mall us vs N i) (zn us i) vs i j) k + zn us i * zn vs j) := by
                show _ = _
                rw [sg_of hs_p.out, sg_of hs0.out, sg_of hs1.out, sg_of hs2.out]
              have HCQ := Lib.hid (CanZ.bound (K := K) (L := max K (L + M) + 1) (h := (s_q, (A_q, n_q, c_q))) ⟨hs_q.out, OQ.out, l_q⟩ (by
                rw [HV.out]
                refine HK.out i (j + 1) (by have := HNA.out; omega) (by have := HNB.out; omega) _ ?_
                rw [← HNN.out, ← HMB.out]
                unfold madd
                have hkl : k < (mrow (mall us vs N i) (zn us i) vs i j).length := by rw [mrow_len, mall_len]; exact hkN
                have := List.getElem_mem (l := (mrow (mall us vs N i) (zn us i) vs i j).set k (zn (mrow (mall us vs N i) (zn us i) vs i j) k + zn us i * zn vs j)) (n := k) (by rw [List.length_set]; exact hkl)
                rwa [List.getElem_set_self] at this))
              rw [HV.out] at HCQ
              obtain ⟨hg1, hg2, d0, d1, y0, y1, z0, z1⟩ := HI6.out.slot hkN
              have HR := Lib.hid (HI6.out.put (i := k) HCQ.out)
              obtain ⟨WE, hWE⟩ : ∃ WE, WE = w2 := ⟨_, rfl⟩
              rw [← hWE] at y0 y1 z0 z1 HR HB6 HI6 OQ HCQ hg2 ⊢
              clear hWE
              have HN : Hid (Below wb.heap.size wb ((WE.setCell ⟨wb.heap.size, k * 2, none⟩ (.bool s_q)).setCell ⟨wb.heap.size, k * 2 + 1, none⟩ (.slice A_q n_q c_q)) ∧ ZPO wb.heap.size K ((WE.setCell ⟨wb.heap.size, k * 2, none⟩ (.bool s_q)).setCell ⟨wb.heap.size, k * 2 + 1, none⟩ (.slice A_q n_q c_q)) (.slice (some ⟨wb.heap.size, 0, none⟩) N N) (mrow (mall us vs N i) (zn us i) vs i (j + 1))) :=
                ⟨(HB6.out.setCell (p := ⟨wb.heap.size, k * 2, none⟩) (Nat.le_refl _) _).setCell (p := ⟨wb.heap.size, k * 2 + 1, none⟩) (Nat.le_refl _) _, by rw [← HMB.out]; exact HR.out.1⟩
              clear hg1 HR
              (refine sord_store (by rfl) (fun K hK => ?_); go_simp; refine hK _ _ ?_; clear hK K)
              refine sord_nil ?_
              clear y0 y1 z0 z1 hg2 hI g_f0 e_f0 g_f1 e_f1 g_g0 e_g0 g_g1 e_g1 g_k0 e_k0 g_k1 e_k1 f0 f1 g0 g1 k0 k1
              go_wp2
              go_roundw
              case rel => exact ⟨j + 1, HN, by omega, by go_num⟩
              case measure => simp [intOf]; omega
            · obtain rfl : j = n4 := by omega
              have HN : Hid (Below wb.heap.size wb wr ∧ ZPO wb.heap.size K wr (.slice (some ⟨wb.heap.size, 0, none⟩) N N) (mall us vs N (i + 1))) := by
                refine ⟨hI.out.1, ?_⟩
                have h1 := hI.out.2
                rw [HNB.out] at h1
                exact h1
              clear hI
              go_wp2
              go_roundw
              case rel => exact ⟨i + 1, HN, by omega, by go_num⟩
              case measure => simp [intOf]; omega
        · obtain rfl : i = n3 := by omega
          have C := Lib.hid (zpnorm_any hI.out.2.c.inp (by omega) (by omega))
          rw [zvc] at C
          have HE : Hid (mall us vs N i = zmull us vs) := by
            show _ = _
            unfold zmull
            rw [HNN.out, HNA.out]
          rw [HE.out] at C
          have HBF := Lib.hid (HB2.out.trans (hI.out.1.mono HB2.out.size))
          clear hI
          go_wp2_with fail
          refine C.out.mono ?_
          rintro e w6 ⟨A5, n5, c5, rfl, hp5, hb5⟩
          have HR := Lib.hid (And.intro (hp5.mono HBF.out.size) (bt HBF.out hb5))
          clear hp5 hb5
          go_wp2
          go_ret
          exact ⟨A5, n5, c5, rfl, HR.out.1, HR.out.2⟩
end Go.Proofs.Ytphofjinncbaaaa
namespace Go.Proofs.Ytphofjinncbaaaa
open Go.RowKit
set_option linter.unusedVariables false
set_option linter.unusedSimpArgs false

/-- the value -/
def ev : List Int → Int → Int
  | [], _ => 0
  | z :: zs, x => z + x * ev zs x
theorem ev_drop {zs : List Int} {k : Nat} (x : Int) (h : k < zs.length) : ev (zs.drop k) x = zn zs k + x * ev (zs.drop (k + 1)) x := by
  rw [List.drop_eq_getElem_cons h]
  show zs[k] + x * _ = _
  rw [zn_of (List.getElem?_eq_getElem h)]
theorem CanZ.ex {B L : Nat} {w w' : World} {h : Hz} {z : Int} {S : Nat → Prop} (H : CanZ B L w h z) (hx : Ex S w w') (hs : ∀ a, h.2.1 = some a → ¬ S a.block) : CanZ B L w' h z := ⟨H.1, H.2.1.ex hx hs, H.2.2⟩
theorem CanZ.num {B L : Nat} {w : World} {h : Hz} {z : Int} (H : CanZ B L w h z) : Num w (shv h.2) z.natAbs L := H.y.raw.2
theorem CanZ.lies {B L : Nat} {w : World} {h : Hz} {z : Int} (H : CanZ B L w h z) : ∀ a, h.2.1 = some a → B ≤ a.block ∧ a.block < w.heap.size := fun a e => H.2.1.lies a e
/-- an integer in a box -/
def BoxZ (b B K : Nat) (w : World) (h : Hz) (z : Int) : Prop := Cel w ⟨b, 0, none⟩ (.bool h.1) ∧ Cel w ⟨b, 1, none⟩ (shv h.2) ∧ CanZ B K w h z ∧ ∀ a, h.2.1 = some a → a.block ≠ b
theorem BoxZ.below {b B K : Nat} {w w' : World} {h : Hz} {z : Int} (H : BoxZ b B K w h z) (hb : Below w.heap.size w w') : BoxZ b B K w' h z := ⟨H.1.below hb, H.2.1.below hb, H.2.2.1.below hb, H.2.2.2⟩
theorem BoxZ.put {b B K K' : Nat} {w : World} {h h' : Hz} {z z' : Int} (H : BoxZ b B K w h z) (hc : CanZ B K' w h' z') (hne : ∀ a, h'.2.1 = some a → a.block ≠ b) : BoxZ b B K' ((w.setCell ⟨b, 0, none⟩ (.bool h'.1)).setCell ⟨b, 1, none⟩ (shv h'.2)) h' z' := by
  refine ⟨(H.1.put).set (by simp), (H.2.1.set (by simp)).put, ?_, hne⟩
  exact hc.ex (S := fun k => k = b) ((Ex.setCell (S := fun k => k = b) w b 0 _ rfl).trans (Ex.setCell (S := fun k => k = b) _ b 1 _ rfl)) hne
theorem BoxZ.new {b B K : Nat} {w : World} {h : Hz} {z : Int} (hc : CanZ B K w h z) (hb : b = w.heap.size) : BoxZ b B K (w.alloc (.cells #[.bool h.1, shv h.2] 47)) h z :=
  ⟨Cel.box (i := 0) _ _ rfl hb, Cel.box (i := 1) _ _ rfl hb, hc.below (belowA _ _), fun a e => by have := (hc.lies a e).2; omega⟩
theorem BoxZ.mono {b B K K' : Nat} {w : World} {h : Hz} {z : Int} (H : BoxZ b B K w h z) (hK : K ≤ K') : BoxZ b B K' w h z := ⟨H.1, H.2.1, ⟨H.2.2.1.1, H.2.2.1.2.1, Nat.le_trans H.2.2.1.2.2 hK⟩, H.2.2.2⟩
set_option maxHeartbeats 4000000 in
theorem atint_any {A A2 : Option Addr} {n c n2 c2 L M K y : Nat} {t : Bool} {rs : List Zc} {w : World} (h : ZPI L w (.slice A n c) rs) (h2 : Num w (.slice A2 n2 c2) y M) (hL : L ≤ 4294967296) (hM : M ≤ 4294967296) (hK1 : 1 ≤ K) (hKb : K ≤ 2147483648) (hn : n ≤ 1048576)
    (hK : ∀ k, k ≤ n → (ev ((rs.map zv).drop k) (sg t y)).natAbs < W ^ K) :
    Calls Try.prog 25 #[.slice A n c, .agg #[.bool t, .slice A2 n2 c2]] w (GI w (ev (rs.map zv) (sg t y)) K) := by
  have H := Lib.hid h
  have H2 := Lib.hid h2
  have HL : Hid (n = rs.length) := h.len.1
  have HK := Lib.hid hK
  clear h h2 hK
  go_enter Try.func25, Try.ntmps25
  go_wp2_with fail
  refine (zof_0).mono ?_
  rintro e w1 ⟨A_s, n_s, c_s, s_s, rfl, hs_s, o_s, hb1, l_s⟩
  have HX0 := Lib.hid (((At.boxc (i := 0) (v := .bool t) (t := 47) (b := w.heap.size) w #[.bool t, .slice A2 n2 c2] rfl (by simp)).below ((Below.refl _ _).alloc (Nat.le_refl _) (.cells #[.bool false, .slice none 0 0] 47))).below hb1)
  have HX1 := Lib.hid (((At.boxc (i := 1) (v := .slice A2 n2 c2) (t := 47) (b := w.heap.size) w #[.bool t, .slice A2 n2 c2] rfl (by simp)).below ((Below.refl _ _).alloc (Nat.le_refl _) (.cells #[.bool false, .slice none 0 0] 47))).below hb1)
  have HR0 := Lib.hid ((Cel.box (i := 0) (v := .bool false) (t := 47) (b := w.heap.size + 1) (World.alloc w (.cells #[.bool t, .slice A2 n2 c2] 47)) #[.bool false, .slice none 0 0] rfl (by simp)).below hb1)
  have HR1 := Lib.hid ((Cel.box (i := 1) (v := .slice none 0 0) (t := 47) (b := w.heap.size + 1) (World.alloc w (.cells #[.bool t, .slice A2 n2 c2] 47)) #[.bool false, .slice none 0 0] rfl (by simp)).below hb1)
  have HB1 := Lib.hid (bt (bt ((Below.refl _ _).alloc (Nat.le_refl _) (.cells #[.bool t, .slice A2 n2 c2] 47)) ((Below.refl _ _).alloc (Nat.le_refl _) (.cells #[.bool false, .slice none 0 0] 47))) hb1)
  obtain ⟨wa, hwa⟩ : ∃ wa, wa = w1 := ⟨_, rfl⟩
  have HCS : Hid (CanZ (w.heap.size + 2) K w1 (s_s, (A_s, n_s, c_s)) 0) := ⟨hs_s.out, by have := o_s; simpa using this, by show n_s ≤ K; omega⟩
  rw [← hwa] at HX0 HX1 HR0 HR1 HB1 HCS ⊢
  have HSZ : Hid (w.heap.size + 2 ≤ wa.heap.size) := by rw [hwa]; have := hb1.size; simp at this; exact this
  clear hwa hb1 o_s
  have HSX : Hid (wa.heap.size ≤ wa.heap.size) := Nat.le_refl _
  have HBX := Lib.hid (BoxZ.new HCS.out rfl)
  have HSS := Lib.hid hs_s.out
  clear HCS
  go_wp2
  go_loopw [6] (fun kv wr => ∃ (k : Nat) (hd : Hz), Hid (Below wa.heap.size wa wr ∧ BoxZ wa.heap.size (w.heap.size + 2) K wr hd (ev ((rs.map zv).drop k) (sg t y))) ∧ k ≤ n ∧ kv = .int .i64 ((k : Int) - 1)) (fun kv _ => (intOf kv + 1).toNat)
  case atStart => exact ⟨n, (s_s, (A_s, n_s, c_s)), ⟨belowA _ _, by rw [List.drop_of_length_le (by rw [List.length_map]; have := HL.out; omega)]; exact HBX.out⟩, Nat.le_refl _, by simp⟩
  case round =>
    obtain ⟨k, ⟨s, A', n', c'⟩, hI, hk, rfl⟩ := hrel
    rcases k with _ | k
    · have HBF := Lib.hid (HB1.out.trans (hI.out.1.mono HB1.out.size))
      obtain ⟨b0, b1, b2, b3⟩ := hI.out.2
      have x0 := b0.1
      have x1 := b1.1
      simp only [shv] at x1
      obtain ⟨c0a, c0b, c0c⟩ := (HR0.out.below (hI.out.1.mono HSX.out))
      obtain ⟨c1a, c1b, c1c⟩ := (HR1.out.below (hI.out.1.mono HSX.out))
      have HC := Lib.hid b2
      clear hI b0 b1 b2 b3
      go_wp2
      refine bodyPost_ret (v := .agg #[.bool s, .slice A' n' c']) (by simp [results, Try.results25, go_sem, c0a, c1a]) rfl ?_
      exact gi_fin (wb := World.alloc (World.alloc w (.cells #[.bool t, .slice A2 n2 c2] 47)) (.cells #[.bool false, .slice none 0 0] 47)) HC.out.1 (by have := HC.out.2.1; simpa using this) HBF.out ⟨by omega, by simp⟩ HC.out.2.2
    · obtain ⟨b, off, s1, A1, n1, c1, r, e, hb, eq, hs, g0, g1, hnum⟩ := (H.out.below (HB1.out.trans (hI.out.1.mono HB1.out.size))).at (i := k) (by have := HL.out; omega)
      have HQ : Hid (zn (rs.map zv) k = zv r) := zn_of (by rw [List.getElem?_map, eq]; rfl)
      subst e
      obtain rfl := hs.out
      have i1 : (0 : Int) ≤ (k : Int) := by omega
      have i2 : (k : Int) < (n : Int) := by omega
      have HEV : Hid (ev ((rs.map zv).drop k) (sg t y) = zn (rs.map zv) k + sg t y * ev ((rs.map zv).drop (k + 1)) (sg t y)) := ev_drop _ (by rw [List.length_map]; have := HL.out; omega)
      obtain ⟨b0, b1, b2, b3⟩ := hI.out.2
      have HNX := Lib.hid ((H2.out.below (HB1.out.trans (hI.out.1.mono HB1.out.size))))
      have HNS := Lib.hid b2.num
      have HNP := Lib.hid hnum
      have HB3 := Lib.hid b3
      have HSG := Lib.hid b2.1
      clear eq hnum hs
      have F0 : Hid (At wr ⟨wa.heap.size, 0, none⟩ (.bool s)) := ⟨b0.1, b0.2.2⟩
      have F1 : Hid (At wr ⟨wa.heap.size, 1, none⟩ (.slice A' n' c')) := ⟨b1.1, b1.2.2⟩
      go_wp2_with fail
      have e_f0 := F0.out.1
      have g_f0 := At.grow (p := _) ⟨F0.out.1, F0.out.2⟩
      have e_f1 := F1.out.1
      have g_f1 := At.grow (p := _) ⟨F1.out.1, F1.out.2⟩
      have e_x0 := (HX0.out.below hI.out.1).1
      have g_x0 := At.grow (p := _) ⟨(HX0.out.below hI.out.1).1, (HX0.out.below hI.out.1).2⟩
      have e_x1 := (HX1.out.below hI.out.1).1
      have g_x1 := At.grow (p := _) ⟨(HX1.out.below hI.out.1).1, (HX1.out.below hI.out.1).2⟩
      have e_g0 := g0.1
      have g_g0 := At.grow (p := _) ⟨g0.1, g0.2⟩
      have e_g1 := g1.1
      have g_g1 := At.grow (p := _) ⟨g1.1, g1.2⟩
      refine wp_region_stores [(0, 0), (0, 1), (0, 3), (0, 4), (0, 5), (0, 6), (1, 2), (1, 7), (2, 8)] (by kernel_rfl) (by kernel_rfl) ?_
      repeat (first | (refine sord_pas (by rfl) (fun K hK => ?_); go_simp; refine hK _ _ (fun w' hw' => (by first | (go_simp; done) | (go_simp; intro hh; cases hh))) ?_; clear hK K) | (refine sord_pasT (by rfl) (fun K hK => ?_); go_simp; refine hK _ _ (fun w' hw' => (by first | (go_simp; done) | (go_simp; intro hh; cases hh))) ?_; clear hK K))
      (refine sord_call (by rfl) (fun K hK => ?_); go_simp; refine hK _ _ ?_; clear hK K)
      refine (zmul_any (s := s) (t := t) (HNS.out.below (Below.refl _ _).drew) (HNX.out.below (Below.refl _ _).drew) (by omega) (by omega)).mono ?_
      rintro e w1 ⟨A_p, n_p, c_p, s_p, rfl, hs_p, o_p, hb1, l_p⟩
      refine ⟨_, rfl, Grow.of_below hb1, ?_⟩
      (refine sord_norm (fun K hK => ?_); go_simp; refine hK _ ?_; clear hK K)
      (refine sord_call (by rfl) (fun K hK => ?_); go_simp; refine hK _ _ ?_; clear hK K)
      refine (zadd_any (s := s_p) (t := r.1) (o_p.num l_p) ((HNP.out.below (Below.refl _ _).drew).below hb1) (by omega) (by omega)).mono ?_
      rintro e w2 ⟨A_q, n_q, c_q, s_q, rfl, hs_q, o_q, hb2, l_q⟩
      refine ⟨_, rfl, Grow.of_below hb2, ?_⟩
      (refine sord_norm (fun K hK => ?_); go_simp; refine hK _ ?_; clear hK K)
      repeat (first | (refine sord_pas (by rfl) (fun K hK => ?_); go_simp; refine hK _ _ (fun w' hw' => (by first | (go_simp; done) | (go_simp; intro hh; cases hh))) ?_; clear hK K) | (refine sord_pasT (by rfl) (fun K hK => ?_); go_simp; refine hK _ _ (fun w' hw' => (by first | (go_simp; done) | (go_simp; intro hh; cases hh))) ?_; clear hK K))
      have HB6 := Lib.hid (bt hI.out.1 (bt (bt (Below.refl _ _).drew hb1) hb2))
      have BX6 := Lib.hid (((hI.out.2.below (Below.refl _ _).drew).below hb1).below hb2)
      have OQ := Lib.hid (((o_q.mono (bt (Below.refl _ _).drew hb1).size)).mono (Nat.le_trans HSZ.out hI.out.1.size))
      have OL := Lib.hid (((o_q.mono (bt (Below.refl _ _).drew hb1).size)).lies)
      have HV : Hid (sg s_p (sg s (ev ((rs.map zv).drop (k + 1)) (sg t y)).natAbs * sg t y).natAbs + sg r.1 r.2 = ev ((rs.map zv).drop k) (sg t y)) := by
        show _ = _
        rw [sg_of hs_p.out, sg_of HSG.out, HEV.out, HQ.out, Int.mul_comm, Int.add_comm]
        rfl
      have HCQ := Lib.hid (CanZ.bound (K := K) (h := (s_q, (A_q, n_q, c_q))) ⟨hs_q.out, OQ.out, l_q⟩ (by rw [HV.out]; exact HK.out k (by omega)))
      rw [HV.out] at HCQ
      have HNE : Hid (∀ a, (s_q, (A_q, n_q, c_q)).2.1 = some a → a.block ≠ wa.heap.size) := fun a e => by
        have h1 := (OL.out a e).1
        have h2 := hI.out.1.size
        have h3 := b0.2.2
        have h4 : wa.heap.size < wr.heap.size := h3
        omega
      obtain ⟨WE, hWE⟩ : ∃ WE, WE = w2 := ⟨_, rfl⟩
      rw [← hWE] at BX6 HCQ HB6 OQ OL ⊢
      clear hWE
      have HPUT := Lib.hid (BX6.out.put HCQ.out HNE.out)
      have HN : Hid (Below wa.heap.size wa ((WE.setCell ⟨wa.heap.size, 0, none⟩ (.bool s_q)).setCell ⟨wa.heap.size, 1, none⟩ (.slice A_q n_q c_q)) ∧ BoxZ wa.heap.size (w.heap.size + 2) K ((WE.setCell ⟨wa.heap.size, 0, none⟩ (.bool s_q)).setCell ⟨wa.heap.size, 1, none⟩ (.slice A_q n_q c_q)) (s_q, (A_q, n_q, c_q)) (ev ((rs.map zv).drop k) (sg t y))) := ⟨below_cells2 HB6.out (Nat.le_refl _), HPUT.out⟩
      obtain ⟨z0a, z0b, z0c⟩ := BX6.out.1
      obtain ⟨z1a, z1b, z1c⟩ := BX6.out.2.1
      clear HPUT b0 b1 b2 b3 g0 g1
      (refine sord_store (by rfl) (fun K hK => ?_); go_simp; refine hK _ _ ?_; clear hK K)
      refine sord_nil ?_
      clear z0a z0b z0c z1a z1b z1c hI g_f0 e_f0 g_f1 e_f1 g_x0 e_x0 g_x1 e_x1 g_g0 e_g0 g_g1 e_g1
      go_wp2
      go_roundw
      case rel => exact ⟨k, (s_q, (A_q, n_q, c_q)), HN, by omega, by go_num⟩
      case measure => simp [intOf]
/-- a row is not touched by what another row's block does -/
theorem ZPO.frame {B L n c g m : Nat} {A : Option Addr} {w w' : World} {zs : List Int} {us : List Value} {u : Value} (H : ZPO B L w (.slice A n c) zs) (hr : w.ownsRow B 47 2 u m us) (hu : u.ownBlock = some g) (hg : w.grownBy w' (some g)) (hne : ∀ a, A = some a → a.block ≠ g) : ZPO B L w' (.slice A n c) zs := by
  obtain ⟨_, _, _, hs, e, h1, h2, h3⟩ := H
  injection e with e1 e2 e3
  subst e1 e2 e3
  rw [← hu] at hg
  refine ⟨_, _, _, hs, rfl, World.ownsRow.kept h1 hg ?_, h2, h3.imp fun _ _ e => e.grown hr (by decide) hg⟩
  rcases h1.2 with ⟨h4, _⟩ | ⟨g1, cap, cur, hv, _⟩
  · left; rw [h4]; rfl
  · right
    rw [hu, hv]
    injection hv with e1 _ _
    intro e
    injection e with e
    exact hne _ e1 e
/-- an integer in a box: a row of one -/
def ZB (b B K : Nat) (w : World) (z : Int) : Prop := ZPO B K w (.slice (some ⟨b, 0, none⟩) 1 1) [z]
theorem ZB.new {b B K : Nat} {w : World} {h : Hz} {z : Int} (hc : CanZ B K w h z) (hb : b = w.heap.size) (hB : B ≤ w.heap.size) : ZB b B K (w.alloc (.cells #[.bool h.1, shv h.2] 47)) z := by
  refine ⟨_, 1, 1, [h], rfl, ?_, rfl, by simpa using All2.nil.snoc (hc.below (belowA _ _))⟩
  have := RowK.lit (k := 2) (T := 47) (B := B) w 1 [.bool h.1, shv h.2] hb (by simp) (by omega) hB
  simpa [zhv] using this
theorem ZB.below {b B K : Nat} {w w' : World} {z : Int} (H : ZB b B K w z) (hb : Below w.heap.size w w') : ZB b B K w' z := ZPO.below H hb
theorem ZB.open {b B K : Nat} {w : World} {z : Int} (H : ZB b B K w z) : ∃ s A1 n1 c1, Hid (s = decide (z < 0)) ∧ At w ⟨b, 0, none⟩ (.bool s) ∧ At w ⟨b, 1, none⟩ (.slice A1 n1 c1) ∧ Num w (.slice A1 n1 c1) z.natAbs K := by
  obtain ⟨g, s, A1, n1, c1, e, hs, g0, g1, hn⟩ := ZPO.head H (i := 0) (by omega)
  injection e with e
  injection e with e
  subst e
  exact ⟨s, A1, n1, c1, hs, by simpa using g0, by simpa using g1, hn⟩
theorem ZB.can {b B K : Nat} {w : World} {z : Int} (H : ZB b B K w z) : ∃ s A1 n1 c1, CanZ B K w (s, (A1, n1, c1)) z ∧ At w ⟨b, 0, none⟩ (.bool s) ∧ At w ⟨b, 1, none⟩ (.slice A1 n1 c1) := by
  obtain ⟨hb1, hb2, d0, d1, y0, y1, _, _⟩ := ZPO.slot H (i := 0) (by omega)
  obtain ⟨_, _, _, hs, e, h1, h2, h3⟩ := H
  injection e with e1 e2 e3
  subst e1 e2 e3
  obtain ⟨hd, z', e1, e2, e3⟩ := h3.at (i := 0) (by simp)
  simp only [List.getElem?_cons_zero, Option.some.injEq] at e2
  subst e2
  have hf := fun j hj => flat2 zhv zhv_len hs 0 j hd e1 hj
  have c0 := h1.cell (i := 0) (by omega)
  have c1 := h1.cell (i := 1) (by omega)
  have f0 := hf 0 (by omega)
  have f1 := hf 1 (by omega)
  simp only [Nat.zero_mul, Nat.zero_add] at f0 f1
  obtain ⟨s, A1, n1, cc⟩ := hd
  exact ⟨s, A1, n1, cc, e3, ⟨by rw [c0, f0]; rfl, hb2⟩, ⟨by rw [c1, f1]; rfl, hb2⟩⟩
theorem ZB.cells {b B K : Nat} {w : World} {z : Int} (H : ZB b B K w z) : B ≤ b ∧ b < w.heap.size ∧ ∃ d0 d1, w.cell? ⟨b, 0, none⟩ = some d0 ∧ w.cell? ⟨b, 1, none⟩ = some d1 ∧ w.frozen? ⟨b, 0, none⟩ = false ∧ w.frozen? ⟨b, 1, none⟩ = false := by
  obtain ⟨h1, h2, d0, d1, h3, h4, h5, h6⟩ := ZPO.slot H (i := 0) (by omega)
  exact ⟨h1, h2, d0, d1, by simpa using h3, by simpa using h4, by simpa using h5, by simpa using h6⟩
theorem ZB.put {b B K : Nat} {w : World} {h : Hz} {z z' : Int} (H : ZB b B K w z) (hc : CanZ B K w h z') : ZB b B K ((w.setCell ⟨b, 0, none⟩ (.bool h.1)).setCell ⟨b, 1, none⟩ (shv h.2)) z' ∧ w.grownBy ((w.setCell ⟨b, 0, none⟩ (.bool h.1)).setCell ⟨b, 1, none⟩ (shv h.2)) (some b) := by
  have := ZPO.put (i := 0) H hc
  unfold ZB
  simpa using this
theorem ZB.row {b B K : Nat} {w : World} {z : Int} (H : ZB b B K w z) : ∃ us, w.ownsRow B 47 2 (.slice (some ⟨b, 0, none⟩) 1 1) 1 us := by
  obtain ⟨_, _, _, hs, e, h1, h2, h3⟩ := H
  injection e with e1 e2 e3
  subst e1 e2 e3
  exact ⟨_, h1⟩
/-- the document's b^n * p(a / b) -/
def hom : List Int → Int → Int → Int
  | [], _, _ => 0
  | z :: zs, a, b => hom zs a b * a + z * b ^ zs.length
theorem hom_drop {zs : List Int} {k : Nat} (a b : Int) (h : k < zs.length) : hom (zs.drop k) a b = hom (zs.drop (k + 1)) a b * a + zn zs k * b ^ (zs.length - (k + 1)) := by
  rw [List.drop_eq_getElem_cons h]
  show _ + zs[k] * b ^ (zs.drop (k + 1)).length = _
  rw [zn_of (List.getElem?_eq_getElem h), List.length_drop]
set_option maxHeartbeats 4000000 in
theorem homog_any {A A2 A3 : Option Addr} {n c n2 c2 n3 c3 L M K x y : Nat} {s t : Bool} {rs : List Zc} {w : World} (h : ZPI L w (.slice A n c) rs) (h2 : Num w (.slice A2 n2 c2) x M) (h3 : Num w (.slice A3 n3 c3) y M) (hL : L ≤ 4294967296) (hM : M ≤ 2147483648) (hK1 : 1 ≤ K) (hKb : K ≤ 2147483648) (hn : n ≤ 1048576)
    (hK : ∀ k, k ≤ (ztr (rs.map zv)).length → (hom ((ztr (rs.map zv)).drop k) (sg s x) (sg t y)).natAbs < W ^ K) (hP : ∀ j, j ≤ (ztr (rs.map zv)).length → ((sg t y) ^ j).natAbs < W ^ K) :
    Calls Try.prog 33 #[.slice A n c, .agg #[.bool s, .slice A2 n2 c2], .agg #[.bool t, .slice A3 n3 c3]] w (GI w (hom (ztr (rs.map zv)) (sg s x) (sg t y)) K) := by
  have H := Lib.hid h
  have H2 := Lib.hid h2
  have H3 := Lib.hid h3
  have hle : (ztr (rs.map zv)).length ≤ 1048576 := by rw [ztr_len]; have h1 := ztl_le (rs.map zv); rw [List.length_map] at h1; have := h.len.1; omega
  have CN := Lib.hid fun w' (hb : Below w.heap.size w w') => zpnorm_any (h.below hb) (by omega) (by omega)
  generalize ztr (rs.map zv) = zs at *
  have HK := Lib.hid hK
  have HP := Lib.hid hP
  clear h h2 h3 hK hP
  go_enter Try.func33, Try.ntmps33
  go_wp2_with fail
  refine (CN.out _ (bt (bt ((Below.refl _ _).alloc (Nat.le_refl _) (.cells #[.bool s, .slice A2 n2 c2] 47)) ((Below.refl _ _).alloc (Nat.le_refl _) (.cells #[.bool t, .slice A3 n3 c3] 47))) ((Below.refl _ _).alloc (Nat.le_refl _) (.cells #[.bool false, .slice none 0 0] 47)))).mono ?_
  rintro e wa ⟨A4, n4, c4, rfl, hp4, hba⟩
  go_wp2_with fail
  refine (zof_0).mono ?_
  rintro e w1 ⟨A_u, n_u, c_u, s_u, rfl, hs_u, o_u, hb1, l_u⟩
  go_wp2_with fail
  refine (zof_1).mono ?_
  rintro e w2 ⟨A_v, n_v, c_v, s_v, rfl, hs_v, o_v, hb2, l_v⟩
  have HX0 := Lib.hid ((((((At.boxc (i := 0) (v := .bool s) (t := 47) (b := w.heap.size) w #[.bool s, .slice A2 n2 c2] rfl (by simp)).below ((Below.refl _ _).alloc (Nat.le_refl _) (.cells #[.bool t, .slice A3 n3 c3] 47))).below ((Below.refl _ _).alloc (Nat.le_refl _) (.cells #[.bool false, .slice none 0 0] 47))).below hba).below hb1).below hb2)
  have HX1 := Lib.hid ((((((At.boxc (i := 1) (v := .slice A2 n2 c2) (t := 47) (b := w.heap.size) w #[.bool s, .slice A2 n2 c2] rfl (by simp)).below ((Below.refl _ _).alloc (Nat.le_refl _) (.cells #[.bool t, .slice A3 n3 c3] 47))).below ((Below.refl _ _).alloc (Nat.le_refl _) (.cells #[.bool false, .slice none 0 0] 47))).below hba).below hb1).below hb2)
  have HY0 := Lib.hid (((((At.boxc (i := 0) (v := .bool t) (t := 47) (b := w.heap.size + 1) (World.alloc w (.cells #[.bool s, .slice A2 n2 c2] 47)) #[.bool t, .slice A3 n3 c3] rfl (by simp)).below ((Below.refl _ _).alloc (Nat.le_refl _) (.cells #[.bool false, .slice none 0 0] 47))).below hba).below hb1).below hb2)
  have HY1 := Lib.hid (((((At.boxc (i := 1) (v := .slice A3 n3 c3) (t := 47) (b := w.heap.size + 1) (World.alloc w (.cells #[.bool s, .slice A2 n2 c2] 47)) #[.bool t, .slice A3 n3 c3] rfl (by simp)).below ((Below.refl _ _).alloc (Nat.le_refl _) (.cells #[.bool false, .slice none 0 0] 47))).below hba).below hb1).below hb2)
  have HR0 := Lib.hid ((((Cel.box (i := 0) (v := .bool false) (t := 47) (b := w.heap.size + 1 + 1) (World.alloc (World.alloc w (.cells #[.bool s, .slice A2 n2 c2] 47)) (.cells #[.bool t, .slice A3 n3 c3] 47)) #[.bool false, .slice none 0 0] rfl (by simp)).below hba).below hb1).below hb2)
  have HR1 := Lib.hid ((((Cel.box (i := 1) (v := .slice none 0 0) (t := 47) (b := w.heap.size + 1 + 1) (World.alloc (World.alloc w (.cells #[.bool s, .slice A2 n2 c2] 47)) (.cells #[.bool t, .slice A3 n3 c3] 47)) #[.bool false, .slice none 0 0] rfl (by simp)).below hba).below hb1).below hb2)
  have HBW := Lib.hid (bt (bt (bt (bt (bt ((Below.refl _ _).alloc (Nat.le_refl _) (.cells #[.bool s, .slice A2 n2 c2] 47)) ((Below.refl _ _).alloc (Nat.le_refl _) (.cells #[.bool t, .slice A3 n3 c3] 47))) ((Below.refl _ _).alloc (Nat.le_refl _) (.cells #[.bool false, .slice none 0 0] 47))) hba) hb1) hb2)
  obtain ⟨B0, hB0⟩ : ∃ B0, B0 = w.heap.size + 3 := ⟨_, rfl⟩
  have hsa : B0 ≤ wa.heap.size := by rw [hB0]; have := hba.size; simp at this; exact this
  have hs1 := hb1.size
  have hs2 := hb2.size
  have HPA : Hid (ZPO B0 L wa (.slice A4 n4 c4) zs) := hp4.mono (by rw [hB0]; simp)
  have HN4 : Hid (n4 = zs.length) := hp4.len
  have hn4 : n4 ≤ 1048576 := by have := HN4.out; omega
  have HPV := Lib.hid ((HPA.out.below hb1).below hb2)
  have HCU : Hid (CanZ B0 K w2 (s_u, (A_u, n_u, c_u)) 0) := ⟨hs_u.out, (o_u.mono hsa).below hb2, by show n_u ≤ K; omega⟩
  have HCV : Hid (CanZ B0 K w2 (s_v, (A_v, n_v, c_v)) 1) := ⟨hs_v.out, o_v.mono (by omega), by show n_v ≤ K; omega⟩
  obtain ⟨wv, hwv⟩ : ∃ wv, wv = w2 := ⟨_, rfl⟩
  rw [← hwv] at HX0 HX1 HY0 HY1 HR0 HR1 HBW HPV HCU HCV hs2 ⊢
  have hsv : B0 ≤ wv.heap.size := by omega
  have HSS := Lib.hid hs_u.out
  clear hwv hba hb1 hb2 o_u o_v hp4 HPA
  have HZ1 := Lib.hid (ZB.new HCU.out rfl hsv)
  have HZ2 := Lib.hid (ZB.new (b := wv.heap.size + 1) (HCV.out.below (belowA wv (.cells #[.bool s_u, .slice A_u n_u c_u] 47))) (by simp) (by simp; omega))
  clear HCU HCV
  go_wp2
  go_loopw [9] (fun kv wr => ∃ (k : Nat), Hid (Below wv.heap.size wv wr ∧ ZB wv.heap.size B0 K wr (hom (zs.drop k) (sg s x) (sg t y)) ∧ ZB (wv.heap.size + 1) B0 K wr ((sg t y) ^ (zs.length - k))) ∧ k ≤ n4 ∧ kv = .int .i64 ((k : Int) - 1)) (fun kv _ => (intOf kv + 1).toNat)
  case atStart => exact ⟨n4, ⟨bt (belowA _ _) (belowA _ _), by rw [List.drop_of_length_le (by have := HN4.out; omega)]; exact HZ1.out.below (belowA _ _), by rw [show zs.length - n4 = 0 by have := HN4.out; omega, Int.pow_zero]; exact HZ2.out⟩, Nat.le_refl _, by simp⟩
  case round =>
    obtain ⟨k, hI, hk, rfl⟩ := hrel
    rcases k with _ | k
    · have HBF := Lib.hid (HBW.out.trans (hI.out.1.mono HBW.out.size))
      obtain ⟨s9, A9, n9, c9, hc9, g0, g1⟩ := hI.out.2.1.can
      have x0 := g0.1
      have x1 := g1.1
      obtain ⟨c0a, c0b, c0c⟩ := HR0.out.below hI.out.1
      obtain ⟨c1a, c1b, c1c⟩ := HR1.out.below hI.out.1
      have HC := Lib.hid hc9
      clear hI g0 g1 hc9
      go_wp2
      refine bodyPost_ret (v := .agg #[.bool s9, .slice A9 n9 c9]) (by simp [results, Try.results33, go_sem, c0a, c1a]) rfl ?_
      exact gi_fin (wb := World.alloc (World.alloc (World.alloc w (.cells #[.bool s, .slice A2 n2 c2] 47)) (.cells #[.bool t, .slice A3 n3 c3] 47)) (.cells #[.bool false, .slice none 0 0] 47)) HC.out.1 (by have := HC.out.2.1; rw [hB0] at this; simpa using this) HBF.out ⟨by omega, by simp⟩ HC.out.2.2
    · obtain ⟨g, s1, A5, n5, c5, eg, hs5, g0, g1, hn5⟩ := (HPV.out.below hI.out.1).head (i := k) (by omega)
      obtain ⟨s6, A6, n6, c6, hs6, f0, f1, hn6⟩ := hI.out.2.1.open
      obtain ⟨s7, A7, n7, c7, hs7, q0, q1, hn7⟩ := hI.out.2.2.open
      subst eg
      have i1 : (0 : Int) ≤ (k : Int) := by omega
      have i2 : (k : Int) < (n4 : Int) := by omega
      have hkz : k < zs.length := by have := HN4.out; omega
      have HEV : Hid (hom (zs.drop k) (sg s x) (sg t y) = hom (zs.drop (k + 1)) (sg s x) (sg t y) * sg s x + zn zs k * (sg t y) ^ (zs.length - (k + 1))) := hom_drop _ _ hkz
      have HPW : Hid ((sg t y) ^ (zs.length - k) = (sg t y) ^ (zs.length - (k + 1)) * sg t y) := by
        show _ = _
        rw [show zs.length - k = (zs.length - (k + 1)) + 1 by omega, Int.pow_succ]
      have N5 := Lib.hid hn5
      have N6 := Lib.hid hn6
      have N7 := Lib.hid hn7
      have NX := Lib.hid (H2.out.below (HBW.out.trans (hI.out.1.mono HBW.out.size)))
      have NY := Lib.hid (H3.out.below (HBW.out.trans (hI.out.1.mono HBW.out.size)))
      have HI := Lib.hid hI.out
      clear hn5 hn6 hn7
      generalize hom (zs.drop (k + 1)) (sg s x) (sg t y) = sv at *
      generalize (sg t y) ^ (zs.length - (k + 1)) = pv at *
      go_wp2_with fail
      have e_f0 := f0.1
      have g_f0 := At.grow (p := _) ⟨f0.1, f0.2⟩
      have e_f1 := f1.1
      have g_f1 := At.grow (p := _) ⟨f1.1, f1.2⟩
      have e_x0 := (HX0.out.below HI.out.1).1
      have g_x0 := At.grow (p := _) ⟨(HX0.out.below HI.out.1).1, (HX0.out.below HI.out.1).2⟩
      have e_x1 := (HX1.out.below HI.out.1).1
      have g_x1 := At.grow (p := _) ⟨(HX1.out.below HI.out.1).1, (HX1.out.below HI.out.1).2⟩
      have e_g0 := g0.1
      have g_g0 := At.grow (p := _) ⟨g0.1, g0.2⟩
      have e_g1 := g1.1
      have g_g1 := At.grow (p := _) ⟨g1.1, g1.2⟩
      have e_q0 := q0.1
      have g_q0 := At.grow (p := _) ⟨q0.1, q0.2⟩
      have e_q1 := q1.1
      have g_q1 := At.grow (p := _) ⟨q1.1, q1.2⟩
      refine wp_region_stores [(0, 0), (0, 1), (0, 3), (0, 4), (0, 5), (0, 6), (0, 7), (1, 2), (1, 8), (1, 9), (2, 10)] (by kernel_rfl) (by kernel_rfl) ?_
      repeat (first | (refine sord_pas (by rfl) (fun K hK => ?_); go_simp; refine hK _ _ (fun w' hw' => (by first | (go_simp; done) | (go_simp; intro hh; cases hh))) ?_; clear hK K) | (refine sord_pasT (by rfl) (fun K hK => ?_); go_simp; refine hK _ _ (fun w' hw' => (by first | (go_simp; done) | (go_simp; intro hh; cases hh))) ?_; clear hK K))
      (refine sord_call (by rfl) (fun K hK => ?_); go_simp; refine hK _ _ ?_; clear hK K)
      refine (zmul_any (s := s6) (t := s) (N6.out.below (Below.refl _ _).drew) (NX.out.below (Below.refl _ _).drew) (by omega) (by omega)).mono ?_
      rintro e w1 ⟨A_p, n_p, c_p, s_p, rfl, hs_p, o_p, hb1, l_p⟩
      refine ⟨_, rfl, Grow.of_below hb1, ?_⟩
      (refine sord_norm (fun K hK => ?_); go_simp; refine hK _ ?_; clear hK K)
      (refine sord_call (by rfl) (fun K hK => ?_); go_simp; refine hK _ _ ?_; clear hK K)
      refine (zmul_any (s := s1) (t := s7) ((N5.out.below (Below.refl _ _).drew).below hb1) ((N7.out.below (Below.refl _ _).drew).below hb1) (by omega) (by omega)).mono ?_
      rintro e w2 ⟨A_r, n_r, c_r, s_r, rfl, hs_r, o_r, hb2, l_r⟩
      refine ⟨_, rfl, Grow.of_below hb2, ?_⟩
      (refine sord_norm (fun K hK => ?_); go_simp; refine hK _ ?_; clear hK K)
      (refine sord_call (by rfl) (fun K hK => ?_); go_simp; refine hK _ _ ?_; clear hK K)
      refine (zadd_any (s := s_p) (t := s_r) ((o_p.num l_p).below hb2) (o_r.num l_r) (by omega) (by omega)).mono ?_
      rintro e w3 ⟨A_u, n_u, c_u, s_u, rfl, hs_u, o_u, hb3, l_u⟩
      refine ⟨_, rfl, Grow.of_below hb3, ?_⟩
      (refine sord_norm (fun K hK => ?_); go_simp; refine hK _ ?_; clear hK K)
      repeat (first | (refine sord_pas (by rfl) (fun K hK => ?_); go_simp; refine hK _ _ (fun w' hw' => (by first | (go_simp; done) | (go_simp; intro hh; cases hh))) ?_; clear hK K) | (refine sord_pasT (by rfl) (fun K hK => ?_); go_simp; refine hK _ _ (fun w' hw' => (by first | (go_simp; done) | (go_simp; intro hh; cases hh))) ?_; clear hK K))
      have HB6 := Lib.hid (bt HI.out.1 (bt (bt (bt (Below.refl _ _).drew hb1) hb2) hb3))
      have Z1 := Lib.hid ((((HI.out.2.1.below (Below.refl _ _).drew).below hb1).below hb2).below hb3)
      have Z2 := Lib.hid ((((HI.out.2.2.below (Below.refl _ _).drew).below hb1).below hb2).below hb3)
      have OU := Lib.hid (((o_u.mono (bt (bt (Below.refl _ _).drew hb1) hb2).size)).mono (Nat.le_trans hsv HI.out.1.size))
      have HV : Hid (sg s_p (sg s6 sv.natAbs * sg s x).natAbs + sg s_r (sg s1 (zn zs k).natAbs * sg s7 pv.natAbs).natAbs = hom (zs.drop k) (sg s x) (sg t y)) := by
        show _ = _
        rw [sg_of hs_p.out, sg_of hs_r.out, sg_of hs5.out, sg_of hs6.out, sg_of hs7.out, HEV.out]
      have HCU := Lib.hid (CanZ.bound (K := K) (h := (s_u, (A_u, n_u, c_u))) ⟨hs_u.out, OU.out, l_u⟩ (by rw [HV.out]; exact HK.out k (by omega)))
      rw [HV.out] at HCU
      obtain ⟨WE, hWE⟩ : ∃ WE, WE = w3 := ⟨_, rfl⟩
      rw [← hWE] at Z1 Z2 HCU HB6 OU ⊢
      clear hWE
      have HPUT := Lib.hid (Z1.out.put HCU.out)
      obtain ⟨us0, hrow⟩ := Z1.out.row
      have HZ2' : Hid (ZB (wv.heap.size + 1) B0 K ((WE.setCell ⟨wv.heap.size, 0, none⟩ (.bool s_u)).setCell ⟨wv.heap.size, 1, none⟩ (.slice A_u n_u c_u)) pv) := ZPO.frame Z2.out hrow rfl HPUT.out.2 (fun a e => by injection e with e; subst e; simp)
      have HZ1' : Hid (ZB wv.heap.size B0 K ((WE.setCell ⟨wv.heap.size, 0, none⟩ (.bool s_u)).setCell ⟨wv.heap.size, 1, none⟩ (.slice A_u n_u c_u)) (hom (zs.drop k) (sg s x) (sg t y))) := HPUT.out.1
      have HB7 : Hid (Below wv.heap.size wv ((WE.setCell ⟨wv.heap.size, 0, none⟩ (.bool s_u)).setCell ⟨wv.heap.size, 1, none⟩ (.slice A_u n_u c_u))) := below_cells2 HB6.out (Nat.le_refl _)
      obtain ⟨hcb, hcl, d0, d1, z0a, z1a, z0b, z1b⟩ := Z1.out.cells
      clear HPUT hrow HCU OU Z1 Z2 HB6
      (refine sord_store (by rfl) (fun K hK => ?_); go_simp; refine hK _ _ ?_; clear hK K)
      refine sord_nil ?_
      clear z0a z1a z0b z1b d0 d1 hcl g_f0 e_f0 g_f1 e_f1 g_x0 e_x0 g_x1 e_x1 g_g0 e_g0 g_g1 e_g1 g_q0 e_q0 g_q1 e_q1 f0 f1 g0 g1 q0 q1 hI
      obtain ⟨WF, hWF⟩ : ∃ WF, WF = (WE.setCell ⟨wv.heap.size, 0, none⟩ (.bool s_u)).setCell ⟨wv.heap.size, 1, none⟩ (.slice A_u n_u c_u) := ⟨_, rfl⟩
      rw [← hWF] at HZ2' HZ1' HB7 ⊢
      clear hWF
      obtain ⟨s8, A8, n8, c8, hs8, q0, q1, hn8⟩ := HZ2'.out.open
      have x0 := q0.1
      have x1 := q1.1
      have y0 := (HY0.out.below HB7.out).1
      have y1 := (HY1.out.below HB7.out).1
      have C8 := Lib.hid (zmul_any (s := s8) (t := t) hn8 (H3.out.below (HBW.out.trans (HB7.out.mono HBW.out.size))) (by omega) (by omega))
      clear q0 q1 hn8
      go_wp2_with fail
      refine C8.out.mono ?_
      rintro e wg ⟨A9, n9, c9, s9, rfl, hs9, o9, hb9, l9⟩
      have HCM := Lib.hid (CanZ.bound (K := K) (h := (s9, (A9, n9, c9))) (B := B0) ⟨hs9.out, o9.mono (Nat.le_trans hsv HB7.out.size), l9⟩ (by rw [sg_of hs8.out, ← HPW.out]; exact HP.out _ (by omega)))
      rw [sg_of hs8.out, ← HPW.out] at HCM
      have Z1 := Lib.hid (HZ1'.out.below hb9)
      have Z2 := Lib.hid (HZ2'.out.below hb9)
      have HB9 := Lib.hid (bt HB7.out hb9)
      clear x0 x1 y0 y1 o9 hb9 C8 HZ1' HZ2'
      have HPUT := Lib.hid (Z2.out.put HCM.out)
      obtain ⟨us0, hrow⟩ := Z2.out.row
      have HN : Hid (Below wv.heap.size wv ((wg.setCell ⟨wv.heap.size + 1, 0, none⟩ (.bool s9)).setCell ⟨wv.heap.size + 1, 1, none⟩ (.slice A9 n9 c9)) ∧ ZB wv.heap.size B0 K ((wg.setCell ⟨wv.heap.size + 1, 0, none⟩ (.bool s9)).setCell ⟨wv.heap.size + 1, 1, none⟩ (.slice A9 n9 c9)) (hom (zs.drop k) (sg s x) (sg t y)) ∧ ZB (wv.heap.size + 1) B0 K ((wg.setCell ⟨wv.heap.size + 1, 0, none⟩ (.bool s9)).setCell ⟨wv.heap.size + 1, 1, none⟩ (.slice A9 n9 c9)) ((sg t y) ^ (zs.length - k))) :=
        ⟨below_cells2 HB9.out (Nat.le_succ _), ZPO.frame Z1.out hrow rfl HPUT.out.2 (fun a e => by injection e with e; subst e; simp), HPUT.out.1⟩
      obtain ⟨hcb2, hcl, d0, d1, z0a, z1a, z0b, z1b⟩ := Z2.out.cells
      clear HPUT hrow HCM Z1 Z2
      go_wp2
      go_roundw
      case rel => exact ⟨k, HN, by omega, by go_num⟩
      case measure => simp [intOf]
end Go.Proofs.Ytphofjinncbaaaa
namespace Go.Proofs.Ytphofjinncbaaaa
open Go.RowKit
set_option linter.unusedVariables false
set_option linter.unusedSimpArgs false

/-- the first i coefficients scaled -/
def scli (zs : List Int) (a : Int) (i : Nat) : List Int := (List.range zs.length).map fun j => if j < i then zn zs j * a ^ j else zn zs j
def scl (zs : List Int) (a : Int) : List Int := (List.range zs.length).map fun j => zn zs j * a ^ j
theorem scli_zero (zs : List Int) (a : Int) : scli zs a 0 = zs := by
  unfold scli
  refine List.ext_getElem (by simp) fun j h1 h2 => ?_
  simp only [List.getElem_map, List.getElem_range, Nat.not_lt_zero, if_false]
  exact zn_of (List.getElem?_eq_getElem h2)
theorem scli_all (zs : List Int) (a : Int) : scli zs a zs.length = scl zs a := by
  unfold scli scl
  refine List.map_congr_left fun j hj => ?_
  rw [if_pos (List.mem_range.1 hj)]
theorem scli_len (zs : List Int) (a : Int) (i : Nat) : (scli zs a i).length = zs.length := by simp [scli]
theorem scli_at {zs : List Int} {a : Int} {i : Nat} (h : i < zs.length) : zn (scli zs a i) i = zn zs i := by
  refine zn_of ?_
  unfold scli
  rw [List.getElem?_map, List.getElem?_range h]
  simp
theorem scli_step (zs : List Int) (a : Int) (i : Nat) : (scli zs a i).set i (zn zs i * a ^ i) = scli zs a (i + 1) := by
  unfold scli
  refine List.ext_getElem (by simp) fun j h1 h2 => ?_
  rw [List.getElem_set]
  simp only [List.getElem_map, List.getElem_range]
  split
  · rename_i e; subst e; rw [if_pos (by omega)]
  · rename_i e
    by_cases hj : j < i
    · rw [if_pos hj, if_pos (by omega)]
    · rw [if_neg hj, if_neg (by omega)]
theorem ZPO.row {B L n c : Nat} {A : Option Addr} {w : World} {zs : List Int} (H : ZPO B L w (.slice A n c) zs) : ∃ us, w.ownsRow B 47 2 (.slice A n c) n us := by
  obtain ⟨_, _, _, hs, e, h1, h2, h3⟩ := H
  injection e with e1 e2 e3
  subst e1 e2 e3
  exact ⟨_, h1⟩
theorem ZPO.lies {B L n c : Nat} {A : Option Addr} {w : World} {zs : List Int} (H : ZPO B L w (.slice A n c) zs) : ∀ a, A = some a → B ≤ a.block ∧ a.block < w.heap.size := by
  obtain ⟨_, _, _, hs, e, h1, h2, h3⟩ := H
  injection e with e1 e2 e3
  subst e1 e2 e3
  exact fun a e => h1.lies a e
set_option maxHeartbeats 4000000 in
theorem scale_any {A A2 : Option Addr} {n c n2 c2 L M K y : Nat} {t : Bool} {rs : List Zc} {w : World} (h : ZPI L w (.slice A n c) rs) (h2 : Num w (.slice A2 n2 c2) y M) (hL : L ≤ 1073741824) (hM : M ≤ 2147483648) (hK1 : 1 ≤ K) (hKb : K ≤ 2147483648) (hn : n ≤ 1048576)
    (hZ : ∀ z ∈ ztr (rs.map zv), z.natAbs < W ^ K) (hK : ∀ j, j < (ztr (rs.map zv)).length → (zn (ztr (rs.map zv)) j * (sg t y) ^ j).natAbs < W ^ K) (hP : ∀ j, j ≤ (ztr (rs.map zv)).length → ((sg t y) ^ j).natAbs < W ^ K) :
    Calls Try.prog 28 #[.slice A n c, .agg #[.bool t, .slice A2 n2 c2]] w (GZP w K (ztr (scl (ztr (rs.map zv)) (sg t y)))) := by
  have H := Lib.hid h
  have H2 := Lib.hid h2
  have hle : (ztr (rs.map zv)).length ≤ 1048576 := by rw [ztr_len]; have h1 := ztl_le (rs.map zv); rw [List.length_map] at h1; have := h.len.1; omega
  have CN := Lib.hid fun w' (hb : Below w.heap.size w w') => zpnorm_any (h.below hb) (by omega) (by omega)
  generalize ztr (rs.map zv) = zs at *
  have HK := Lib.hid hK
  have HP := Lib.hid hP
  have HZ := Lib.hid hZ
  clear h h2 hK hP hZ
  go_enter Try.func28, Try.ntmps28
  have HX0 := Lib.hid (At.boxc (i := 0) (v := .bool t) (t := 47) (b := w.heap.size) w #[.bool t, .slice A2 n2 c2] rfl (by simp))
  have HX1 := Lib.hid (At.boxc (i := 1) (v := .slice A2 n2 c2) (t := 47) (b := w.heap.size) w #[.bool t, .slice A2 n2 c2] rfl (by simp))
  have HBN : Hid (Below w.heap.size w (World.alloc w (.cells #[.bool t, .slice A2 n2 c2] 47))) := ((Below.refl _ _).alloc (Nat.le_refl _) (.cells #[.bool t, .slice A2 n2 c2] 47))
  go_wp2_with fail
  refine (CN.out _ ((Below.refl _ _).alloc (Nat.le_refl _) (.cells #[.bool t, .slice A2 n2 c2] 47))).mono ?_
  rintro e wa ⟨A4, n4, c4, rfl, hp4, hba⟩
  have HN4 : Hid (n4 = zs.length) := hp4.len
  have hn4 : n4 ≤ 1048576 := by have := HN4.out; omega
  obtain ⟨wn, hwn⟩ : ∃ wn, wn = (World.alloc w (.cells #[.bool t, .slice A2 n2 c2] 47)) := ⟨_, rfl⟩
  rw [← hwn] at HX0 HX1 HBN hp4 hba
  clear hwn
  go_wp2_with fail
  refine zof_1.mono ?_
  rintro e wv ⟨A_v, n_v, c_v, s_v, rfl, hs_v, o_v, hbv, l_v⟩
  have HPV := Lib.hid (ZPO.bound (hp4.below hbv) HZ.out)
  have hsa := hba.size
  have HCV : Hid (CanZ wn.heap.size K wv (s_v, (A_v, n_v, c_v)) 1) := ⟨hs_v.out, o_v.mono hsa, by show n_v ≤ K; omega⟩
  have HBV := Lib.hid (bt hba hbv)
  have hsv : wn.heap.size ≤ wv.heap.size := HBV.out.size
  have HSS := Lib.hid hs_v.out
  clear hba hbv o_v hp4 hsa
  have HZ2 := Lib.hid (ZB.new HCV.out rfl hsv)
  clear HCV
  go_wp2
  go_loopw [12] (fun kv wr => ∃ (i : Nat), Hid (Below wn.heap.size wn wr ∧ ZPO wn.heap.size K wr (.slice A4 n4 c4) (scli zs (sg t y) i) ∧ ZB wv.heap.size wn.heap.size K wr ((sg t y) ^ i) ∧ (∀ a, A4 = some a → a.block ≠ wv.heap.size)) ∧ i ≤ n4 ∧ kv = .int .i64 (i : Int)) (fun kv _ => n4 - (intOf kv).toNat)
  case atStart => exact ⟨0, ⟨HBV.out.alloc hsv _, by rw [scli_zero]; exact HPV.out.below (belowA _ _), by rw [Int.pow_zero]; exact HZ2.out, fun a e => by have := (HPV.out.lies a e).2; omega⟩, Nat.zero_le _, rfl⟩
  case round =>
    obtain ⟨i, hI, hi, rfl⟩ := hrel
    by_cases hlt : i < n4
    · have HI := Lib.hid hI.out
      have hiz : i < zs.length := by have := HN4.out; omega
      obtain ⟨g, s1, A5, n5, c5, eg, hs5, g0, g1, hn5⟩ := hI.out.2.1.head hlt
      obtain ⟨s7, A7, n7, c7, hs7, q0, q1, hn7⟩ := hI.out.2.2.1.open
      subst eg
      have hgne : g ≠ wv.heap.size := hI.out.2.2.2 _ rfl
      have i1 : (0 : Int) ≤ (i : Int) := by omega
      have i2 : (i : Int) < (n4 : Int) := by omega
      rw [scli_at hiz] at hs5 hn5
      have N5 := Lib.hid hn5
      have N7 := Lib.hid hn7
      clear hn5 hn7
      go_wp2_with fail
      have e_g0 := g0.1
      have g_g0 := At.grow (p := _) ⟨g0.1, g0.2⟩
      have e_g1 := g1.1
      have g_g1 := At.grow (p := _) ⟨g1.1, g1.2⟩
      have e_q0 := q0.1
      have g_q0 := At.grow (p := _) ⟨q0.1, q0.2⟩
      have e_q1 := q1.1
      have g_q1 := At.grow (p := _) ⟨q1.1, q1.2⟩
      refine wp_region_stores [(0, 0), (0, 1), (0, 2), (0, 3), (0, 4), (0, 5), (0, 6), (1, 7), (0, 8), (2, 9)] (by kernel_rfl) (by kernel_rfl) ?_
      repeat (first | (refine sord_pas (by rfl) (fun K hK => ?_); go_simp; refine hK _ _ (fun w' hw' => (by first | (go_simp; done) | (go_simp; intro hh; cases hh))) ?_; clear hK K) | (refine sord_pasT (by rfl) (fun K hK => ?_); go_simp; refine hK _ _ (fun w' hw' => (by first | (go_simp; done) | (go_simp; intro hh; cases hh))) ?_; clear hK K))
      (refine sord_call (by rfl) (fun K hK => ?_); go_simp; refine hK _ _ ?_; clear hK K)
      refine (zmul_any (s := s1) (t := s7) (N5.out.below (Below.refl _ _).drew) (N7.out.below (Below.refl _ _).drew) (by omega) (by omega)).mono ?_
      rintro e w1 ⟨A_u, n_u, c_u, s_u, rfl, hs_u, o_u, hb1, l_u⟩
      refine ⟨_, rfl, Grow.of_below hb1, ?_⟩
      (refine sord_norm (fun K hK => ?_); go_simp; refine hK _ ?_; clear hK K)
      repeat (first | (refine sord_pas (by rfl) (fun K hK => ?_); go_simp; refine hK _ _ (fun w' hw' => (by first | (go_simp; done) | (go_simp; intro hh; cases hh))) ?_; clear hK K) | (refine sord_pasT (by rfl) (fun K hK => ?_); go_simp; refine hK _ _ (fun w' hw' => (by first | (go_simp; done) | (go_simp; intro hh; cases hh))) ?_; clear hK K))
      have HB6 := Lib.hid (HI.out.1.trans ((bt (Below.refl _ _).drew hb1).mono HI.out.1.size))
      have ZP := Lib.hid ((HI.out.2.1.below (Below.refl _ _).drew).below hb1)
      have Z2 := Lib.hid ((HI.out.2.2.1.below (Below.refl _ _).drew).below hb1)
      have OU := Lib.hid (((o_u.mono (below_drewN _ 1).size)).mono HI.out.1.size)
      have HV : Hid (sg s1 (zn zs i).natAbs * sg s7 ((sg t y) ^ i).natAbs = zn zs i * (sg t y) ^ i) := by
        show _ = _
        rw [sg_of hs5.out, sg_of hs7.out]
      have HCU := Lib.hid (CanZ.bound (K := K) (h := (s_u, (A_u, n_u, c_u))) ⟨hs_u.out, OU.out, l_u⟩ (by rw [HV.out]; exact HK.out i hiz))
      rw [HV.out] at HCU
      obtain ⟨WE, hWE⟩ : ∃ WE, WE = w1 := ⟨_, rfl⟩
      rw [← hWE] at ZP Z2 HCU HB6 OU ⊢
      clear hWE
      have HPUT := Lib.hid (ZP.out.put (i := i) HCU.out)
      obtain ⟨us0, hrow⟩ := ZP.out.row
      have HZ2' : Hid (ZB wv.heap.size wn.heap.size K ((WE.setCell ⟨g, i * 2, none⟩ (.bool s_u)).setCell ⟨g, i * 2 + 1, none⟩ (.slice A_u n_u c_u)) ((sg t y) ^ i)) := ZPO.frame Z2.out hrow rfl HPUT.out.2 (fun a e => by injection e with e; subst e; exact fun e => hgne e.symm)
      have HZ1' : Hid (ZPO wn.heap.size K ((WE.setCell ⟨g, i * 2, none⟩ (.bool s_u)).setCell ⟨g, i * 2 + 1, none⟩ (.slice A_u n_u c_u)) (.slice (some ⟨g, 0, none⟩) n4 c4) (scli zs (sg t y) (i + 1))) := by rw [← scli_step]; exact HPUT.out.1
      obtain ⟨hcb, hcl, d0, d1, z0a, z1a, z0b, z1b⟩ := ZP.out.slot hlt
      have HB7 : Hid (Below wn.heap.size wn ((WE.setCell ⟨g, i * 2, none⟩ (.bool s_u)).setCell ⟨g, i * 2 + 1, none⟩ (.slice A_u n_u c_u))) := (HB6.out.setCell (p := ⟨g, i * 2, none⟩) hcb _).setCell (p := ⟨g, i * 2 + 1, none⟩) hcb _
      clear HPUT hrow HCU OU ZP Z2 HB6
      (refine sord_store (by rfl) (fun K hK => ?_); go_simp; refine hK _ _ ?_; clear hK K)
      refine sord_nil ?_
      clear z0a z1a z0b z1b d0 d1 hcl hcb g_g0 e_g0 g_g1 e_g1 g_q0 e_q0 g_q1 e_q1 g0 g1 q0 q1 hI
      obtain ⟨WF, hWF⟩ : ∃ WF, WF = (WE.setCell ⟨g, i * 2, none⟩ (.bool s_u)).setCell ⟨g, i * 2 + 1, none⟩ (.slice A_u n_u c_u) := ⟨_, rfl⟩
      rw [← hWF] at HZ2' HZ1' HB7 ⊢
      clear hWF
      obtain ⟨s8, A8, n8, c8, hs8, q0, q1, hn8⟩ := HZ2'.out.open
      have y0 := q0.1
      have y1 := q1.1
      have x0 := (HX0.out.below HB7.out).1
      have x1 := (HX1.out.below HB7.out).1
      have C8 := Lib.hid (zmul_any (s := s8) (t := t) hn8 (H2.out.below (HBN.out.trans (HB7.out.mono HBN.out.size))) (by omega) (by omega))
      clear q0 q1 hn8
      go_wp2_with fail
      refine C8.out.mono ?_
      rintro e wg ⟨A9, n9, c9, s9, rfl, hs9, o9, hb9, l9⟩
      have HCM := Lib.hid (CanZ.bound (K := K) (h := (s9, (A9, n9, c9))) (B := wn.heap.size) ⟨hs9.out, o9.mono HB7.out.size, l9⟩ (by rw [sg_of hs8.out, ← Int.pow_succ]; exact HP.out (i + 1) (by omega)))
      rw [sg_of hs8.out, ← Int.pow_succ] at HCM
      have Z1 := Lib.hid (HZ1'.out.below hb9)
      have Z2 := Lib.hid (HZ2'.out.below hb9)
      have HB9 := Lib.hid (bt HB7.out hb9)
      clear x0 x1 y0 y1 o9 hb9 C8 HZ1' HZ2'
      have HPUT := Lib.hid (Z2.out.put HCM.out)
      obtain ⟨us0, hrow⟩ := Z2.out.row
      have HN : Hid (Below wn.heap.size wn ((wg.setCell ⟨wv.heap.size, 0, none⟩ (.bool s9)).setCell ⟨wv.heap.size, 1, none⟩ (.slice A9 n9 c9)) ∧ ZPO wn.heap.size K ((wg.setCell ⟨wv.heap.size, 0, none⟩ (.bool s9)).setCell ⟨wv.heap.size, 1, none⟩ (.slice A9 n9 c9)) (.slice (some ⟨g, 0, none⟩) n4 c4) (scli zs (sg t y) (i + 1)) ∧ ZB wv.heap.size wn.heap.size K ((wg.setCell ⟨wv.heap.size, 0, none⟩ (.bool s9)).setCell ⟨wv.heap.size, 1, none⟩ (.slice A9 n9 c9)) ((sg t y) ^ (i + 1)) ∧ (∀ a, some (⟨g, 0, none⟩ : Addr) = some a → a.block ≠ wv.heap.size)) :=
        ⟨below_cells2 HB9.out hsv, ZPO.frame Z1.out hrow rfl HPUT.out.2 (fun a e => by injection e with e; subst e; exact hgne), HPUT.out.1, fun a e => by injection e with e; subst e; exact hgne⟩
      obtain ⟨hcb2, hcl, d0, d1, z0a, z1a, z0b, z1b⟩ := Z2.out.cells
      clear HPUT hrow HCM Z1 Z2
      go_wp2
      go_roundw
      case rel => exact ⟨i + 1, HN, by omega, by go_num⟩
      case measure => simp [intOf]; omega
    · obtain rfl : i = n4 := by omega
      have C := Lib.hid (zpnorm_any hI.out.2.1.c.inp (by omega) (by omega))
      rw [zvc, HN4.out, scli_all, ← HN4.out] at C
      have HBF := Lib.hid (HBN.out.trans (hI.out.1.mono HBN.out.size))
      clear hI
      go_wp2_with fail
      refine C.out.mono ?_
      rintro e wg ⟨A5, n5, c5, rfl, hp5, hb5⟩
      have HR := Lib.hid (And.intro (hp5.mono HBF.out.size) (bt HBF.out hb5))
      clear hp5 hb5
      go_wp2
      go_ret
      exact ⟨A5, n5, c5, rfl, HR.out.1, HR.out.2⟩
theorem flip_any {A : Option Addr} {n c L K : Nat} {rs : List Zc} {w : World} (h : ZPI L w (.slice A n c) rs) (hL : L ≤ 1073741824) (hK1 : 1 ≤ K) (hKb : K ≤ 2147483648) (hn : n ≤ 1048576)
    (hZ : ∀ z ∈ ztr (rs.map zv), z.natAbs < W ^ K) (hK : ∀ j, j < (ztr (rs.map zv)).length → (zn (ztr (rs.map zv)) j * (-1) ^ j).natAbs < W ^ K) (hP : ∀ j, j ≤ (ztr (rs.map zv)).length → ((-1 : Int) ^ j).natAbs < W ^ K) :
    Calls Try.prog 30 #[.slice A n c] w (GZP w K (ztr (scl (ztr (rs.map zv)) (-1)))) := by
  have H := Lib.hid h
  have HA := Lib.hid (And.intro hZ (And.intro hK hP))
  clear h hZ hK hP
  go_enter Try.func30, Try.ntmps30
  go_wp2_with fail
  refine (zof_m1).mono ?_
  rintro e w1 ⟨A_s, n_s, c_s, s_s, rfl, hs_s, o_s, hb1, l_s⟩
  have hsg : sg s_s (Int.natAbs (-1)) = -1 := sg_of hs_s.out
  have C := Lib.hid (scale_any (t := s_s) (H.out.below hb1) (o_s.num l_s) hL (by omega) hK1 hKb hn HA.out.1 (by rw [hsg]; exact HA.out.2.1) (by rw [hsg]; exact HA.out.2.2))
  rw [hsg] at C
  have HB1 := Lib.hid hb1
  clear hsg hb1 o_s
  go_wp2_with fail
  refine C.out.mono ?_
  rintro e wg ⟨A5, n5, c5, rfl, hp5, hb5⟩
  have HR := Lib.hid (And.intro (hp5.mono HB1.out.size) (bt HB1.out hb5))
  clear hp5 hb5
  go_wp2
  go_ret
  exact ⟨A5, n5, c5, rfl, HR.out.1, HR.out.2⟩
end Go.Proofs.Ytphofjinncbaaaa
namespace Go.Proofs.Ytphofjinncbaaaa
open Go.RowKit
set_option linter.unusedVariables false
set_option linter.unusedSimpArgs false

def revl (zs : List Int) (m : Nat) : List Int := (List.range (m + 1)).map fun j => zn zs (m - j)
def revi (zs : List Int) (m i : Nat) : List Int := (List.range (m + 1)).map fun j => if m - j < i then zn zs (m - j) else 0
theorem revi_zero (zs : List Int) (m : Nat) : revi zs m 0 = List.replicate (m + 1) 0 := by
  unfold revi
  refine List.ext_getElem (by simp) fun j h1 h2 => by simp
theorem revi_all {zs : List Int} {m : Nat} (h : zs.length ≤ m + 1) : revi zs m zs.length = revl zs m := by
  unfold revi revl
  refine List.map_congr_left fun j hj => ?_
  split
  · rfl
  · unfold zn
    rw [List.getElem?_eq_none (by omega)]; rfl
theorem revi_step {zs : List Int} {m i : Nat} (h : i ≤ m) : (revi zs m i).set (m - i) (zn zs i) = revi zs m (i + 1) := by
  unfold revi
  refine List.ext_getElem (by simp) fun j h1 h2 => ?_
  rw [List.getElem_set]
  simp only [List.getElem_map, List.getElem_range]
  have hj : j < m + 1 := by simpa using h2
  split
  · rename_i e; subst e; rw [if_pos (by omega), show m - (m - i) = i by omega]
  · rename_i e
    by_cases hj2 : m - j < i
    · rw [if_pos hj2, if_pos (by omega)]
    · rw [if_neg hj2, if_neg (by omega)]
set_option maxHeartbeats 4000000 in
theorem reverse_any {A : Option Addr} {n c L m : Nat} {rs : List Zc} {w : World} (h : ZPI L w (.slice A n c) rs) (hL : L ≤ 1073741824) (hn : n ≤ 1048576) (hm : (ztr (rs.map zv)).length ≤ m + 1) (hm2 : m ≤ 65536) :
    Calls Try.prog 32 #[.slice A n c, .int .i64 (m : Int)] w (fun e w' => ∃ A' n' c', e = .returned (.tuple #[.slice A' n' c', .int .i64 0]) ∧ ZPO w.heap.size L w' (.slice A' n' c') (ztr (revl (ztr (rs.map zv)) m)) ∧ Below w.heap.size w w') := by
  have CN := Lib.hid (zpnorm_any h (by omega) (by omega))
  generalize ztr (rs.map zv) = zs at *
  clear h
  go_enter Try.func32, Try.ntmps32
  go_wp2_with fail
  refine CN.out.mono ?_
  rintro e wa ⟨A4, n4, c4, rfl, hp4, hba⟩
  have HN4 : Hid (n4 = zs.length) := hp4.len
  have HP := Lib.hid hp4
  have HBA := Lib.hid hba
  have hn4 : n4 ≤ m + 1 := by have := HN4.out; omega
  have d1 : decide ((m : Int) < 0) = false := decide_eq_false (by omega)
  have d2 : decide ((m : Int) < (n4 : Int) - 1) = false := decide_eq_false (by omega)
  have d3 : decide ((65536 : Int) < (m : Int)) = false := decide_eq_false (by omega)
  clear hp4 hba CN
  go_wp2_with (at_make; refine wpList_mkZ rfl (.tmp 25) (.tmp 25) rfl (m + 1) rfl rfl (by simp) (by simp) (by omega) ?_; intro w5 ho5 hb5)
  have HO : Hid (Below wa.heap.size wa w5 ∧ ZPO w.heap.size L w5 (.slice (some ⟨wa.heap.size, 0, none⟩) (m + 1) (m + 1)) (revi zs m 0)) := ⟨hb5, by rw [revi_zero]; exact (ho5.monoL (Nat.zero_le _)).mono HBA.out.size⟩
  clear ho5 hb5 d1 d2 d3
  go_wp2
  go_loopw [29] (fun kv wr => ∃ (i : Nat), Hid (Below wa.heap.size wa wr ∧ ZPO w.heap.size L wr (.slice (some ⟨wa.heap.size, 0, none⟩) (m + 1) (m + 1)) (revi zs m i)) ∧ i ≤ n4 ∧ kv = .int .i64 (i : Int)) (fun kv _ => n4 - (intOf kv).toNat)
  case atStart => exact ⟨0, HO, Nat.zero_le _, rfl⟩
  case round =>
    obtain ⟨i, hI, hi, rfl⟩ := hrel
    by_cases hlt : i < n4
    · have HI := Lib.hid hI.out
      obtain ⟨k, hk⟩ : ∃ k, k = m - i := ⟨_, rfl⟩
      have hki : (m : Int) - (i : Int) = (k : Int) := by omega
      have hkm : k < m + 1 := by omega
      have hkw : IntKind.i64.wrap (k : Int) = (k : Int) := by rw [IntKind.wrap_i64]; omega
      have HKK := Lib.hid hk
      clear hk
      obtain ⟨hd, hc, ga, ea, g0, g1⟩ : ∃ (hd : Hz) (hc : CanZ w.heap.size L wr hd (zn zs i)) (ga : Nat), A4 = some ⟨ga, 0, none⟩ ∧ At wr ⟨ga, i * 2, none⟩ (.bool hd.1) ∧ At wr ⟨ga, i * 2 + 1, none⟩ (shv hd.2) := by
        obtain ⟨_, _, _, hs, e, h1, h2, h3⟩ := HP.out.below HI.out.1
        injection e with e1 e2 e3
        subst e1 e2 e3
        obtain ⟨g, eg, hg1, hg2⟩ := h1.form (by omega)
        subst eg
        obtain ⟨hd, z, e1, e2, e3⟩ := h3.at (i := i) (by omega)
        have hf := fun j hj => flat2 zhv zhv_len hs i j hd e1 hj
        have f0 := hf 0 (by omega)
        rw [Nat.add_zero] at f0
        rw [zn_of e2]
        exact ⟨hd, e3, g, rfl, ⟨by rw [h1.cell (by omega), f0]; rfl, hg2⟩, ⟨by rw [h1.cell (by omega), hf 1 (by omega)]; rfl, hg2⟩⟩
      subst ea
      obtain ⟨s5, A5, n5, c5⟩ := hd
      have x0 := g0.1
      have x1 := g1.1
      simp only [shv] at x1
      have i1 : (0 : Int) ≤ (i : Int) := by omega
      have i2 : (i : Int) < (n4 : Int) := by omega
      have q1 : (0 : Int) ≤ (k : Int) := by omega
      have q2 : (k : Int) < (m : Int) + 1 := by omega
      have HC := Lib.hid (hc.below (belowA wr (.cells #[.bool s5, .slice A5 n5 c5] 47)))
      have ZP := Lib.hid (HI.out.2.below (belowA wr (.cells #[.bool s5, .slice A5 n5 c5] 47)))
      have HB6 : Hid (Below wa.heap.size wa (World.alloc wr (.cells #[.bool s5, .slice A5 n5 c5] 47))) := bt HI.out.1 (belowA _ _)
      have HPUT := Lib.hid (ZP.out.put (i := k) HC.out)
      have HN : Hid (Below wa.heap.size wa (((World.alloc wr (.cells #[.bool s5, .slice A5 n5 c5] 47)).setCell ⟨wa.heap.size, k * 2, none⟩ (.bool s5)).setCell ⟨wa.heap.size, k * 2 + 1, none⟩ (.slice A5 n5 c5)) ∧ ZPO w.heap.size L (((World.alloc wr (.cells #[.bool s5, .slice A5 n5 c5] 47)).setCell ⟨wa.heap.size, k * 2, none⟩ (.bool s5)).setCell ⟨wa.heap.size, k * 2 + 1, none⟩ (.slice A5 n5 c5)) (.slice (some ⟨wa.heap.size, 0, none⟩) (m + 1) (m + 1)) (revi zs m (i + 1))) := by
        refine ⟨(HB6.out.setCell (p := ⟨wa.heap.size, k * 2, none⟩) (Nat.le_refl _) _).setCell (p := ⟨wa.heap.size, k * 2 + 1, none⟩) (Nat.le_refl _) _, ?_⟩
        rw [← revi_step (show i ≤ m by omega), ← HKK.out]
        exact HPUT.out.1
      obtain ⟨hcb, hcl, d0, d1, z0a, z1a, z0b, z1b⟩ := ZP.out.slot hkm
      clear g0 g1 hc hI HPUT HC ZP HB6 hcb
      go_wp2
      go_roundw
      case rel => exact ⟨i + 1, HN, by omega, by go_num⟩
      case measure => simp [intOf]; omega
    · obtain rfl : i = n4 := by omega
      have C := Lib.hid (zpnorm_any hI.out.2.c.inp (by omega) (by omega))
      rw [zvc, HN4.out, revi_all hm] at C
      have HBF := Lib.hid (HBA.out.trans (hI.out.1.mono HBA.out.size))
      clear hI
      go_wp2_with fail
      refine C.out.mono ?_
      rintro e wg ⟨A5, n5, c5, rfl, hp5, hb5⟩
      have HR := Lib.hid (And.intro (hp5.mono HBF.out.size) (bt HBF.out hb5))
      clear hp5 hb5
      go_wp2
      go_ret2
      exact ⟨A5, n5, c5, rfl, HR.out.1, HR.out.2⟩
end Go.Proofs.Ytphofjinncbaaaa
