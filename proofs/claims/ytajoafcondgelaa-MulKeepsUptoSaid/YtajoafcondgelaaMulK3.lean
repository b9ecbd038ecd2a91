/-
  MulKeeps.
-/
import Derived.Test.YtajoafcondgelaaMulK2
namespace Go.Proofs.Ytajoafcondgelaa
open Go.RowKit
set_option linter.unusedVariables false

theorem bits_u64m (op : BinOp) (x y : Int) : ∃ e : Nat, bits op .u64 x y = (e : Int) ∧ e < W := by
  have h := wf_bits op .u64 x y
  have h2 : IntKind.u64.min ≤ bits op .u64 x y ∧ bits op .u64 x y ≤ IntKind.u64.max := by simpa [Lit.wf] using h
  have e1 : IntKind.u64.min = 0 := by decide
  have e2 : IntKind.u64.max = 18446744073709551615 := by decide
  exact ⟨(bits op .u64 x y).toNat, by omega, by rw [W_eq]; omega⟩
theorem RowV.lit0 {T : TypeId} {B : Nat} (w : World) (hB : B ≤ w.heap.size) : RowV T B (w.alloc (.cells #[] T)) (some ⟨w.heap.size, 0, none⟩) 0 0 [] := RowV.lit w [] rfl (by simp) hB
theorem all_app {P : Sh → Prop} {s1 s2 : List Sh} (h1 : ∀ (i : Nat) (s : Sh), s1[i]? = some s → P s) (h2 : ∀ (i : Nat) (s : Sh), s2[i]? = some s → P s) : ∀ (i : Nat) (s : Sh), (s1 ++ s2)[i]? = some s → P s := by
  intro i s hi
  by_cases h : i < s1.length
  · rw [List.getElem?_append_left h] at hi; exact h1 i s hi
  · rw [List.getElem?_append_right (by omega)] at hi; exact h2 _ s hi
def VF (x y : Nat) (i : Nat) : List Nat := dg W (nth (V12 x y) i)
/-- twelve answers -/
def LF (w0 w' : World) (A : Option Addr) (c : Nat) (ss : List Sh) (V : Nat → List Nat) : Prop :=
  RowV 23 w0.heap.size w' A 12 c (ss.map shv) ∧ Els 30 w0.heap.size w' ss V ∧ Chain w0.heap.size ss w'.heap.size ∧ (∀ (i : Nat) (s : Sh), ss[i]? = some s → s.2.1 ≤ 8388608) ∧ ss.length = 12
theorem GLs.lf {w w' : World} {x y : Nat} {e : Ending} (h : GLs w (V12 x y) 8388608 e w') : ∃ A c ss, e = .returned (.slice A 12 c) ∧ LF w w' A c ss (VF x y) ∧ Below w.heap.size w w' := by
  obtain ⟨A, c, ss, F, h1, h2, h3, h4, h5, h6⟩ := h
  have hl : ss.length = 12 := by have := h2.1; simpa [V12] using this
  exact ⟨A, c, ss, h1, ⟨h2, h3.imp (fun i hi => (h5 i ss[i] (List.getElem?_eq_getElem hi)).1), h4, fun i s hi => (h5 i s hi).2, hl⟩, h6⟩
theorem Els.rd {t : TypeId} {B : Nat} {w : World} {ss : List Sh} {F : Nat → List Nat} (h : Els t B w ss F) : ∀ (i : Nat) (s : Sh), ss[i]? = some s → Rd .u64 w s.1 s.2.1 s.2.2 (F i) := fun i s hi => (h i s hi).rd
/-- a row's block is none of its lists' -/
theorem RowV.apart {t T : TypeId} {B B2 n c : Nat} {w : World} {A : Option Addr} {vs : List Value} {ss : List Sh} {F : Nat → List Nat} (h : RowV T B w A n c vs) (he : Els t B2 w ss F) (hne : t ≠ T) : ∀ a, A = some a → ¬ Blk ss a.block := by
  intro a ea ⟨i, s, b, h1, h2, h3⟩
  rcases h.2 with ⟨h4, _⟩ | ⟨g, cap, cur, hv, _, hh, _⟩
  · injection h4 with h4; rw [ea] at h4; cases h4
  · injection hv with hv _ _
    rw [ea] at hv
    injection hv with hv
    subst hv
    rcases (he i s h1).2 with ⟨h5, _⟩ | ⟨g2, cap2, cur2, hv2, _, hh2, _⟩
    · injection h5 with h5; rw [h2] at h5; cases h5
    · injection hv2 with hv2 _ _
      rw [h2] at hv2
      injection hv2 with hv2
      subst hv2
      simp only at h3
      subst h3
      rw [hh] at hh2
      injection hh2 with hh2
      injection hh2 with _ e2 _
      exact hne e2.symm
theorem RowV.lies {T : TypeId} {B n c : Nat} {w : World} {A : Option Addr} {vs : List Value} (h : RowV T B w A n c vs) : Lies A B w.heap.size := by
  intro a e
  subst e
  rcases h.2 with ⟨h2, _⟩ | ⟨g, cap, cur, hv, hg, hh, _⟩
  · cases h2
  · injection hv with e1 _ _
    injection e1 with e1
    subst e1
    exact ⟨hg, (Array.getElem?_eq_some_iff.1 hh).1⟩
theorem blk_app {s1 s2 : List Sh} {b : Nat} (h : Blk (s1 ++ s2) b) : Blk s1 b ∨ Blk s2 b := by
  obtain ⟨i, s, a, h1, h2, h3⟩ := h
  by_cases hi : i < s1.length
  · rw [List.getElem?_append_left hi] at h1; exact .inl ⟨i, s, a, h1, h2, h3⟩
  · rw [List.getElem?_append_right (by omega)] at h1; exact .inr ⟨_, s, a, h1, h2, h3⟩
theorem Ex.of_base {B : Nat} {w w' : World} (h : Below B w w') : Ex (fun j => B ≤ j) w w' := ⟨h.os, h.tape, h.output, h.size, fun k hk hn => h.block k (by omega)⟩
theorem set_take {gs tl : List Nat} {k e x : Nat} (h : k < gs.length) : (gs.take k ++ x :: tl).set k e = (gs.set k e).take (k + 1) ++ tl := by
  have h1 : (gs.take k).length = k := by rw [List.length_take]; omega
  have h2 : (gs.set k e).take (k + 1) = gs.take k ++ [e] := by
    rw [List.take_succ_eq_append_getElem (by simpa using h), List.take_set_of_le (Nat.le_refl k)]
    simp
  rw [h2, List.append_assoc, List.set_append_right _ _ (by omega), h1]
  simp
set_option maxHeartbeats 16000000 in
set_option maxRecDepth 100000 in
theorem mulKeeps_any {A A2 : Option Addr} {n c m d : Nat} {xs ys : List Nat} {w : World} (h : Rd .u64 w A n c xs) (h' : Rd .u64 w A2 m d ys) (hx : All W xs) (hy : All W ys) (hn : n ≤ 1048576) (hm : m ≤ 1048576) :
    Calls Try.prog 3 #[.slice A n c, .slice A2 m d] w (Keeps (.bool true) w) := by
  have H := Lib.hid h
  have H' := Lib.hid h'
  have HXY := Lib.hid (And.intro hx hy)
  have HXL : Hid (xs.length = n) := h.len
  have HYL : Hid (ys.length = m) := h'.len
  have HEW := Lib.hid elN
  have HES := Lib.hid elNats
  have HQ := Lib.hid awake3_any
  clear h h' hx hy
  go_enter Try.func3, Try.ntmps3
  go_wp2_with fail
  refine (HQ.out _).mono ?_
  rintro e w1 ⟨rfl, hb1⟩
  have HB0 : Hid (w.heap.size ≤ w1.heap.size) := hb1.size
  go_wp2_with fail
  refine (whole3_any (H.out.below hb1) (by omega)).mono ?_
  rintro e w2 ⟨A_x1, c_x1, rfl, o_x1, hb2⟩
  have L_x1 := Lib.hid o_x1.lies
  have Z1 := hb2.size
  go_wp2_with fail
  refine (whole3_any ((H'.out.below hb1).below hb2) (by omega)).mono ?_
  rintro e w3 ⟨A_y1, c_y1, rfl, o_y1, hb3⟩
  have L_y1 := Lib.hid o_y1.lies
  have Z2 := hb3.size
  have hcx := o_x1.cap
  have hcy := o_y1.cap
  have j1 : (0 : Int) ≤ (n : Int) := by omega
  have j2 : (n : Int) ≤ (c_x1 : Int) := by omega
  have j3 : (0 : Int) ≤ (m : Int) := by omega
  have j4 : (m : Int) ≤ (c_y1 : Int) := by omega
  have NX : Hid (Num w3 (.slice A_x1 n c_x1) (val W xs) n) := by
    have h1 := (o_x1.below hb3).rd.upto (j := n) (by omega)
    rw [← HXL.out, List.take_left, HXL.out] at h1
    exact (h1.num HXY.out.1 (Nat.le_refl n))
  have NY : Hid (Num w3 (.slice A_y1 m c_y1) (val W ys) m) := by
    have h1 := o_y1.rd.upto (j := m) (by omega)
    rw [← HYL.out, List.take_left, HYL.out] at h1
    exact (h1.num HXY.out.2 (Nat.le_refl m))
  go_wp2_with fail
  refine (mean_any ((((H.out.num HXY.out.1 (Nat.le_refl n)).below hb1).below hb2).below hb3) ((((H'.out.num HXY.out.2 (Nat.le_refl m)).below hb1).below hb2).below hb3) (by omega) (by omega)).mono ?_
  rintro e wm hg
  obtain ⟨A_w, c_w, ss_w, rfl, hl_w, hb_w⟩ := hg.lf
  clear hg
  have Z_w := hb_w.size
  have L_w := Lib.hid hl_w
  have RL_w := Lib.hid hl_w.1.lies
  clear hl_w
  go_wp2_with fail
  refine wp_region_grow none [(true, 0), (true, 1), (true, 2), (true, 3), (true, 4), (true, 5), (true, 6), (true, 7), (false, 8), (true, 9)] (by kernel_rfl) (by kernel_rfl) ?_
  repeat (refine ord_pas (by rfl) (fun K hK => ?_); go_simp; refine hK _ _ (fun w' hw' => (by first | (go_simp; done) | (go_simp; intro hh; cases hh))) ?_; clear hK K)
  have ZD_one : wm.heap.size ≤ (World.drew wm).heap.size := Nat.le_refl _
  (refine ord_call (by rfl) (fun K hK => ?_); go_simp; refine hK _ _ ?_; clear hK K)
  refine (ask_any ((NX.out.below hb_w).below (Below.refl _ _).drew) ((NY.out.below hb_w).below (Below.refl _ _).drew) (by omega) (by omega)).mono ?_
  rintro e wv1 hg
  obtain ⟨A_one, c_one, ss_one, rfl, hl_one, hb_one⟩ := hg.lf
  clear hg
  refine ⟨_, rfl, (Grow.of_below hb_one), ?_⟩
  (refine ord_norm (fun K hK => ?_); go_simp; refine hK _ ?_; clear hK K)
  repeat (refine ord_pas (by rfl) (fun K hK => ?_); go_simp; refine hK _ _ (fun w' hw' => (by first | (go_simp; done) | (go_simp; intro hh; cases hh))) ?_; clear hK K)
  refine ord_nil ?_
  have L_one := Lib.hid hl_one
  clear hl_one
  have Z_one := hb_one.size
  have RL_one := Lib.hid L_one.out.1.lies
  go_wp2_with fail
  refine (sameL3_yes (L_one.out.1).rd (((L_w.out.1).below (Below.refl _ _).drew).below hb_one).rd (L_one.out.2.1).rd (((L_w.out.2.1).below (Below.refl _ _).drew).below hb_one).rd (fun i s hi => by have := L_one.out.2.2.2.1 i s hi; omega) (by omega)).mono ?_
  rintro e w4 ⟨rfl, hb4⟩
  have Z3 := hb4.size
  go_wp2_with fail
  refine wp_region_grow none [(true, 0), (true, 1), (true, 2), (true, 3), (true, 4), (true, 5), (true, 6), (true, 7), (false, 8), (true, 9)] (by kernel_rfl) (by kernel_rfl) ?_
  repeat (refine ord_pas (by rfl) (fun K hK => ?_); go_simp; refine hK _ _ (fun w' hw' => (by first | (go_simp; done) | (go_simp; intro hh; cases hh))) ?_; clear hK K)
  have ZD_two : w4.heap.size ≤ (World.drew w4).heap.size := Nat.le_refl _
  (refine ord_call (by rfl) (fun K hK => ?_); go_simp; refine hK _ _ ?_; clear hK K)
  refine (ask_any (((((NX.out.below hb_w).below (Below.refl _ _).drew).below hb_one).below hb4).below (Below.refl _ _).drew) (((((NY.out.below hb_w).below (Below.refl _ _).drew).below hb_one).below hb4).below (Below.refl _ _).drew) (by omega) (by omega)).mono ?_
  rintro e wv2 hg
  obtain ⟨A_two, c_two, ss_two, rfl, hl_two, hb_two⟩ := hg.lf
  clear hg
  refine ⟨_, rfl, (Grow.of_below hb_two), ?_⟩
  (refine ord_norm (fun K hK => ?_); go_simp; refine hK _ ?_; clear hK K)
  repeat (refine ord_pas (by rfl) (fun K hK => ?_); go_simp; refine hK _ _ (fun w' hw' => (by first | (go_simp; done) | (go_simp; intro hh; cases hh))) ?_; clear hK K)
  refine ord_nil ?_
  have L_two := Lib.hid hl_two
  clear hl_two
  have Z_two := hb_two.size
  have RL_two := Lib.hid L_two.out.1.lies
  go_wp2_with fail
  refine (sameL3_yes ((((L_one.out.1).below hb4).below (Below.refl _ _).drew).below hb_two).rd ((((((L_w.out.1).below (Below.refl _ _).drew).below hb_one).below hb4).below (Below.refl _ _).drew).below hb_two).rd ((((L_one.out.2.1).below hb4).below (Below.refl _ _).drew).below hb_two).rd ((((((L_w.out.2.1).below (Below.refl _ _).drew).below hb_one).below hb4).below (Below.refl _ _).drew).below hb_two).rd (fun i s hi => by have := L_one.out.2.2.2.1 i s hi; omega) (by omega)).mono ?_
  rintro e w5 ⟨rfl, hb5⟩
  have Z4 := hb5.size
  go_wp2_with fail
  refine (sameL3_yes ((L_two.out.1).below hb5).rd (((((((L_w.out.1).below (Below.refl _ _).drew).below hb_one).below hb4).below (Below.refl _ _).drew).below hb_two).below hb5).rd ((L_two.out.2.1).below hb5).rd (((((((L_w.out.2.1).below (Below.refl _ _).drew).below hb_one).below hb4).below (Below.refl _ _).drew).below hb_two).below hb5).rd (fun i s hi => by have := L_two.out.2.2.2.1 i s hi; omega) (by omega)).mono ?_
  rintro e w6 ⟨rfl, hb6⟩
  have Z5 := hb6.size
  go_wp2_with fail
  refine (whole3_any (((((((((((H.out.below hb1).below hb2).below hb3).below hb_w).below (Below.refl _ _).drew).below hb_one).below hb4).below (Below.refl _ _).drew).below hb_two).below hb5).below hb6) (by omega)).mono ?_
  rintro e w7 ⟨A_t1, c_t1, rfl, o_t1, hb7⟩
  have Z6 := hb7.size
  go_wp2_with fail
  refine (same3_yes ((((((((((o_x1.below hb3).below hb_w).below (Below.refl _ _).drew).below hb_one).below hb4).below (Below.refl _ _).drew).below hb_two).below hb5).below hb6).below hb7).rd o_t1.rd rfl (by omega)).mono ?_
  rintro e w8 ⟨rfl, hb8⟩
  have Z7 := hb8.size
  go_wp2_with fail
  refine (whole3_any (((((((((((((H'.out.below hb1).below hb2).below hb3).below hb_w).below (Below.refl _ _).drew).below hb_one).below hb4).below (Below.refl _ _).drew).below hb_two).below hb5).below hb6).below hb7).below hb8) (by omega)).mono ?_
  rintro e w9 ⟨A_t2, c_t2, rfl, o_t2, hb9⟩
  have Z8 := hb9.size
  go_wp2_with fail
  refine (same3_yes (((((((((((o_y1.below hb_w).below (Below.refl _ _).drew).below hb_one).below hb4).below (Below.refl _ _).drew).below hb_two).below hb5).below hb6).below hb7).below hb8).below hb9).rd o_t2.rd rfl (by omega)).mono ?_
  rintro e w10 ⟨rfl, hb10⟩
  have Z9 := hb10.size
  have HRA := Lib.hid (((((((((((((((H.out.below hb1).below hb2).below hb3).below hb_w).below (Below.refl _ _).drew).below hb_one).below hb4).below (Below.refl _ _).drew).below hb_two).below hb5).below hb6).below hb7).below hb8).below hb9).below hb10)
  have HBC := Lib.hid (bt (bt (bt (bt (bt (bt (bt (bt (bt (bt (bt (bt (bt (bt hb1 hb2) hb3) hb_w) (Below.refl _ _).drew) hb_one) hb4) (Below.refl _ _).drew) hb_two) hb5) hb6) hb7) hb8) hb9) hb10)
  go_wp2_with (at_builtin; (refine wpList_app rfl (.tmp 79) (.tmp 80) rfl HEW.out (t := 30) (k := .u64) (B := w10.heap.size) (xs := []) (ys := xs) rfl rfl (Own.lit0 _ (Nat.le_refl _)) (HRA.out.alloc _) (by omega) (by simp) ?_); intro A_c c_c wc ho_c hb_c _ _; have K_c : Hid (Own .u64 30 w10.heap.size wc A_c n c_c xs ∧ Below w10.heap.size w10 wc) := ⟨(by simpa using ho_c), (belowA _ _).trans hb_c⟩; clear ho_c hb_c)
  have L_c := Lib.hid K_c.out.1.lies
  have Z10 := K_c.out.2.size
  have OX := Lib.hid ((((((((((((((o_x1.below hb3).below hb_w).below (Below.refl _ _).drew).below hb_one).below hb4).below (Below.refl _ _).drew).below hb_two).below hb5).below hb6).below hb7).below hb8).below hb9).below hb10).below K_c.out.2)
  have OY := Lib.hid (((((((((((((o_y1.below hb_w).below (Below.refl _ _).drew).below hb_one).below hb4).below (Below.refl _ _).drew).below hb_two).below hb5).below hb6).below hb7).below hb8).below hb9).below hb10).below K_c.out.2)
  have R1 := Lib.hid (((((((((((L_one.out.1).below hb4).below (Below.refl _ _).drew).below hb_two).below hb5).below hb6).below hb7).below hb8).below hb9).below hb10).below K_c.out.2)
  have R2 := Lib.hid ((((((((L_two.out.1).below hb5).below hb6).below hb7).below hb8).below hb9).below hb10).below K_c.out.2)
  have R0 := Lib.hid (((((((((((((L_w.out.1).below (Below.refl _ _).drew).below hb_one).below hb4).below (Below.refl _ _).drew).below hb_two).below hb5).below hb6).below hb7).below hb8).below hb9).below hb10).below K_c.out.2)
  have X1 := Lib.hid (((((((((((L_one.out.2.1).below hb4).below (Below.refl _ _).drew).below hb_two).below hb5).below hb6).below hb7).below hb8).below hb9).below hb10).below K_c.out.2)
  have X2 := Lib.hid ((((((((L_two.out.2.1).below hb5).below hb6).below hb7).below hb8).below hb9).below hb10).below K_c.out.2)
  have X0 := Lib.hid (((((((((((((L_w.out.2.1).below (Below.refl _ _).drew).below hb_one).below hb4).below (Below.refl _ _).drew).below hb_two).below hb5).below hb6).below hb7).below hb8).below hb9).below hb10).below K_c.out.2)
  have HBW := Lib.hid (bt (bt (bt (bt (bt (bt (bt (bt (bt (bt (bt (bt (bt (bt (bt hb1 hb2) hb3) hb_w) (Below.refl _ _).drew) hb_one) hb4) (Below.refl _ _).drew) hb_two) hb5) hb6) hb7) hb8) hb9) hb10) K_c.out.2)
  clear o_x1 o_y1
  go_loopw [84] (fun iv wr => ∃ (k : Nat) (gs : List Nat), Hid (Own .u64 30 w10.heap.size wr A_c n c_c gs ∧ Own .u64 30 w1.heap.size wr A_x1 (n + 8) c_x1 (gs.take k ++ (xs.drop k ++ marks8)) ∧ All W gs ∧ Ex (fun j => (w1.heap.size ≤ j ∧ j < w2.heap.size) ∨ (w10.heap.size ≤ j ∧ j < wc.heap.size)) wc wr) ∧ k ≤ n ∧ iv = .int .i64 (k : Int)) (fun iv _ => n - (intOf iv).toNat)
  case atStart => exact ⟨0, xs, ⟨K_c.out.1, by simpa using OX.out, HXY.out.1, Ex.refl _ _⟩, Nat.zero_le _, rfl⟩
  case round =>
    obtain ⟨k, gs, hI, hk, rfl⟩ := hrel
    by_cases hlt : k < n
    · have hgl := hI.out.1.len
      obtain ⟨gc, egc, _, _⟩ := hI.out.1.form (by omega)
      obtain ⟨gx, egx, _, _⟩ := hI.out.2.1.form (by omega)
      have GC := L_c.out _ egc
      have GX := L_x1.out _ egx
      simp only at GC GX
      have hne : gc ≠ gx := by omega
      have hne2 : gx ≠ gc := by omega
      subst egc egx
      have hc1 := hI.out.1.cell (i := k) hlt
      have hf1 := hI.out.1.frozen (i := k)
      have hc2 := hI.out.2.1.cell (i := k) (by omega)
      have hf2 := hI.out.2.1.frozen (i := k)
      generalize nth gs k = d1 at hc1
      generalize nth (gs.take k ++ (xs.drop k ++ marks8)) k = d2 at hc2
      obtain ⟨e, he, heW⟩ := bits_u64m .xor (d1 : Int) ((k : Int) + 5)
      have i1 : (0 : Int) ≤ (k : Int) := by omega
      have i2 : (k : Int) < (n : Int) := by omega
      have i3 : (k : Int) < (n : Int) + 8 := by omega
      have HN : Hid (Own .u64 30 w10.heap.size ((wr.setCell ⟨gc, k, none⟩ (.int .u64 (e : Int))).setCell ⟨gx, k, none⟩ (.int .u64 (e : Int))) (some ⟨gc, 0, none⟩) n c_c (gs.set k e) ∧ Own .u64 30 w1.heap.size ((wr.setCell ⟨gc, k, none⟩ (.int .u64 (e : Int))).setCell ⟨gx, k, none⟩ (.int .u64 (e : Int))) (some ⟨gx, 0, none⟩) (n + 8) c_x1 ((gs.set k e).take (k + 1) ++ (xs.drop (k + 1) ++ marks8)) ∧ All W (gs.set k e) ∧ Ex (fun j => (w1.heap.size ≤ j ∧ j < w2.heap.size) ∨ (w10.heap.size ≤ j ∧ j < wc.heap.size)) wc ((wr.setCell ⟨gc, k, none⟩ (.int .u64 (e : Int))).setCell ⟨gx, k, none⟩ (.int .u64 (e : Int)))) := by
        refine ⟨hI.out.1.stored.ex (S := fun j => j = gx) (Ex.setCell _ _ _ _ rfl) (fun a ea => by cases ea; exact hne), ?_, hI.out.2.2.1.set heW k, (hI.out.2.2.2.trans (Ex.setCell _ _ _ _ (Or.inr GC))).trans (Ex.setCell _ _ _ _ (Or.inl GX))⟩
        have h1 := (hI.out.2.1.ex (S := fun j => j = gc) (Ex.setCell wr gc k (.int .u64 (e : Int)) rfl) (fun a ea => by cases ea; exact hne2)).stored (i := k) (x := e)
        have hxl := HXL.out
        rw [List.drop_eq_getElem_cons (l := xs) (i := k) (by omega), List.cons_append, set_take (by omega)] at h1
        exact h1
      clear hI hgl heW
      go_wp2
      go_roundw
      case rel => exact ⟨k + 1, _, HN, by omega, by go_num⟩
      case measure => simp [intOf]; omega
    · obtain rfl : k = n := by omega
      obtain ⟨wd, rfl⟩ : ∃ wd : World, wd = wr := ⟨_, rfl⟩
      have EXS := Lib.hid hI.out.2.2.2
      have HGA := Lib.hid hI.out.2.2.1
      have HGL : Hid (gs.length = k) := hI.out.1.len
      have Oc := Lib.hid hI.out.1
      have Ox : Hid (Own .u64 30 w1.heap.size wd A_x1 (k + 8) c_x1 (gs ++ marks8)) := by
        have h1 := hI.out.2.1
        have h2 : gs.take k = gs := List.take_of_length_le (by rw [HGL.out]; exact Nat.le_refl _)
        have h3 : xs.drop k = [] := List.drop_of_length_le (by rw [HXL.out]; exact Nat.le_refl _)
        rw [h2, h3] at h1
        exact h1
      have HBD : Hid (Below w.heap.size w wd) := HBW.out.trans (EXS.out.below (fun j hj => by have := HB0.out; omega) HBW.out.size)
      have Z11 := EXS.out.size
      have Oy := Lib.hid (OY.out.ex EXS.out (fun a e hs => by have := L_y1.out a e; omega))
      have Q1 : Hid (RdV wd A_one 12 c_one (ss_one.map shv)) := R1.out.rd.ex EXS.out (fun a e hs => by have := RL_one.out a e; omega)
      have Q2 : Hid (RdV wd A_two 12 c_two (ss_two.map shv)) := R2.out.rd.ex EXS.out (fun a e hs => by have := RL_two.out a e; omega)
      have Q0 : Hid (RdV wd A_w 12 c_w (ss_w.map shv)) := R0.out.rd.ex EXS.out (fun a e hs => by have := RL_w.out a e; omega)
      have Y1 := Lib.hid (X1.out.ex EXS.out (fun b hb hs => by have := L_one.out.2.2.1.blk hb; omega))
      have Y2 := Lib.hid (X2.out.ex EXS.out (fun b hb hs => by have := L_two.out.2.2.1.blk hb; omega))
      have Y0 := Lib.hid (X0.out.ex EXS.out (fun b hb hs => by have := L_w.out.2.2.1.blk hb; omega))
      have NX3 : Hid (Num wd (.slice A_x1 k c_x1) (val W gs) k) := by
        have h1 := Ox.out.rd.upto (j := k) (by omega)
        rw [← HGL.out, List.take_left, HGL.out] at h1
        exact (h1.num HGA.out (Nat.le_refl k))
      have NY3 : Hid (Num wd (.slice A_y1 m c_y1) (val W ys) m) := by
        have h1 := Oy.out.rd.upto (j := m) (by omega)
        rw [← HYL.out, List.take_left, HYL.out] at h1
        exact (h1.num HXY.out.2 (Nat.le_refl m))
      clear hI OX OY R1 R2 R0 X1 X2 X0 HBW K_c NX NY
      go_wp2_with fail
      refine wp_region_grow none [(true, 0), (true, 1), (true, 2), (true, 3), (true, 4), (true, 5), (true, 6), (true, 7), (false, 8), (true, 9)] (by kernel_rfl) (by kernel_rfl) ?_
      repeat (refine ord_pas (by rfl) (fun K hK => ?_); go_simp; refine hK _ _ (fun w' hw' => (by first | (go_simp; done) | (go_simp; intro hh; cases hh))) ?_; clear hK K)
      have ZD_thr : wd.heap.size ≤ (World.drew wd).heap.size := Nat.le_refl _
      (refine ord_call (by rfl) (fun K hK => ?_); go_simp; refine hK _ _ ?_; clear hK K)
      refine (ask_any (NX3.out.below (Below.refl _ _).drew) (NY3.out.below (Below.refl _ _).drew) (by omega) (by omega)).mono ?_
      rintro e wv3 hg
      obtain ⟨A_thr, c_thr, ss_thr, rfl, hl_thr, hb_thr⟩ := hg.lf
      clear hg
      refine ⟨_, rfl, (Grow.of_below hb_thr), ?_⟩
      (refine ord_norm (fun K hK => ?_); go_simp; refine hK _ ?_; clear hK K)
      repeat (refine ord_pas (by rfl) (fun K hK => ?_); go_simp; refine hK _ _ (fun w' hw' => (by first | (go_simp; done) | (go_simp; intro hh; cases hh))) ?_; clear hK K)
      refine ord_nil ?_
      have L_thr := Lib.hid hl_thr
      clear hl_thr
      have Z_thr := hb_thr.size
      have RL_thr := Lib.hid L_thr.out.1.lies
      go_wp2_with fail
      refine (mean_any (((Oc.out.numv HGA.out rfl (Nat.le_refl k)).below (Below.refl _ _).drew).below hb_thr) ((((H'.out.num HXY.out.2 (Nat.le_refl m)).below HBD.out).below (Below.refl _ _).drew).below hb_thr) (by omega) (by omega)).mono ?_
      rintro e wn hg
      obtain ⟨A_v, c_v, ss_v, rfl, hl_v, hb_v⟩ := hg.lf
      clear hg
      have L_v := Lib.hid hl_v
      clear hl_v
      have Z12 := hb_v.size
      go_wp2_with fail
      refine (sameL3_yes ((L_thr.out.1).below hb_v).rd (L_v.out.1).rd ((L_thr.out.2.1).below hb_v).rd (L_v.out.2.1).rd (fun i s hi => by have := L_thr.out.2.2.2.1 i s hi; omega) (by omega)).mono ?_
      rintro e w11 ⟨rfl, hb11⟩
      go_wp2_with fail
      refine (sameL3_yes ((((Q1.out.below (Below.refl _ _).drew).below hb_thr).below hb_v).below hb11) ((((Q0.out.below (Below.refl _ _).drew).below hb_thr).below hb_v).below hb11) ((((Y1.out.below (Below.refl _ _).drew).below hb_thr).below hb_v).below hb11).rd ((((Y0.out.below (Below.refl _ _).drew).below hb_thr).below hb_v).below hb11).rd (fun i s hi => by have := L_one.out.2.2.2.1 i s hi; omega) (by omega)).mono ?_
      rintro e w12 ⟨rfl, hb12⟩
      go_wp2_with fail
      refine (sameL3_yes (((((Q2.out.below (Below.refl _ _).drew).below hb_thr).below hb_v).below hb11).below hb12) (((((Q0.out.below (Below.refl _ _).drew).below hb_thr).below hb_v).below hb11).below hb12) (((((Y2.out.below (Below.refl _ _).drew).below hb_thr).below hb_v).below hb11).below hb12).rd (((((Y0.out.below (Below.refl _ _).drew).below hb_thr).below hb_v).below hb11).below hb12).rd (fun i s hi => by have := L_two.out.2.2.2.1 i s hi; omega) (by omega)).mono ?_
      rintro e w13 ⟨rfl, hb13⟩
      go_wp2_with fail
      refine (whole3_any ((((((Oc.out.below (Below.refl _ _).drew).below hb_thr).below hb_v).below hb11).below hb12).below hb13).rd (by omega)).mono ?_
      rintro e w14 ⟨A_t3, c_t3, rfl, o_t3, hb14⟩
      go_wp2_with fail
      refine (same3_yes (((((((Ox.out.below (Below.refl _ _).drew).below hb_thr).below hb_v).below hb11).below hb12).below hb13).below hb14).rd o_t3.rd rfl (by omega)).mono ?_
      rintro e w15 ⟨rfl, hb15⟩
      have Z16 := (bt (bt (bt (bt (bt hb_v hb11) hb12) hb13) hb14) hb15).size
      have HQ1 := Lib.hid ((((((((Q1.out.below (Below.refl _ _).drew).below hb_thr).below hb_v).below hb11).below hb12).below hb13).below hb14).below hb15)
      have HQ2 := Lib.hid ((((((((Q2.out.below (Below.refl _ _).drew).below hb_thr).below hb_v).below hb11).below hb12).below hb13).below hb14).below hb15)
      have HQ3 := Lib.hid (((((((L_thr.out.1).below hb_v).below hb11).below hb12).below hb13).below hb14).below hb15).rd
      go_wp2_with (first
        | (at_builtin; (refine wpList_appVs rfl (.tmp 140) (.tmp 141) rfl HES.out (B := w15.heap.size) (vs := []) rfl rfl (RowV.lit0 w15 (Nat.le_refl _)) (HQ1.out.below (belowA _ _)) (shv_one _) (by omega) (by simp) (by simp) ?_); intro A_a1 c_a1 wa1 ha1 hba1 _; have K1 : Hid (RowV 23 w15.heap.size wa1 A_a1 12 c_a1 (ss_one.map shv) ∧ Below w15.heap.size w15 wa1) := ⟨(by simpa using ha1), (belowA _ _).trans hba1⟩; clear ha1 hba1)
        | (at_builtin; (refine wpList_appVs rfl (.tmp 142) (.tmp 143) rfl HES.out (B := w15.heap.size) rfl rfl K1.out.1 (HQ2.out.below K1.out.2) (shv_one _) (by omega) (by simp) K1.out.2.size ?_); intro A_a2 c_a2 wa2 ha2 hba2 _; have K2 : Hid (RowV 23 w15.heap.size wa2 A_a2 24 c_a2 ((ss_one ++ ss_two).map shv) ∧ Below w15.heap.size w15 wa2) := ⟨(by rw [List.map_append]; exact ha2), K1.out.2.trans hba2⟩; clear ha2 hba2)
        | (at_builtin; (refine wpList_appVs rfl (.tmp 144) (.tmp 145) rfl HES.out (B := w15.heap.size) rfl rfl K2.out.1 (HQ3.out.below K2.out.2) (shv_one _) (by omega) (by simp) K2.out.2.size ?_); intro A_a3 c_a3 wa3 ha3 hba3 _; have K3 : Hid (RowV 23 w15.heap.size wa3 A_a3 36 c_a3 ((ss_one ++ ss_two ++ ss_thr).map shv) ∧ Below w15.heap.size w15 wa3) := ⟨(by rw [List.map_append (l₂ := ss_thr)]; exact ha3), K2.out.2.trans hba3⟩; clear ha3 hba3))
      have Z13 := (bt (bt (bt (bt (bt (bt hb_v hb11) hb12) hb13) hb14) hb15) K3.out.2).size
      go_wp2_with fail
      refine (row2_any (N := 6) (w := wa3) (by rfl) (by omega)).mono ?_
      rintro e wq1 ⟨A_rr, c_rr, ss_rr, F_rr, rfl, hr_rr⟩
      have hb_rr := hr_rr.2.2.2.2
      have L_rr := Lib.hid hr_rr
      clear hr_rr
      have Z_rr := hb_rr.size
      go_wp2_with fail
      refine (row2_any (N := 6) (w := wq1) (by rfl) (by omega)).mono ?_
      rintro e wq2 ⟨A_rs, c_rs, ss_rs, F_rs, rfl, hr_rs⟩
      have hb_rs := hr_rs.2.2.2.2
      have L_rs := Lib.hid hr_rs
      clear hr_rs
      have Z_rs := hb_rs.size
      go_wp2_with fail
      refine (fact_any (N := 9) (by rfl) (by omega)).mono ?_
      rintro e w16 ⟨A_kf, n_kf, c_kf, rfl, o_kf, hb16, l_kf⟩
      have L_kf := Lib.hid o_kf.lies
      go_wp2_with fail
      refine (fact_any (N := 9) (by rfl) (by omega)).mono ?_
      rintro e w17 ⟨A_kg, n_kg, c_kg, rfl, o_kg, hb17, l_kg⟩
      have L_kg := Lib.hid o_kg.lies
      go_wp2_with fail
      refine (binom_ok (N := 6) (K := 2) (by rfl) (by rfl) (by omega) (by omega)).mono ?_
      rintro e w18 ⟨A_kh, n_kh, c_kh, rfl, o_kh, hb18, l_kh⟩
      have L_kh := Lib.hid o_kh.lies
      have Z14 := (bt (bt hb16 hb17) hb18).size
      have HC3 : Hid (Chain wq2.heap.size [(A_kf, n_kf, c_kf), (A_kg, n_kg, c_kg), (A_kh, n_kh, c_kh)] w18.heap.size) := ⟨_, hb16.size, L_kf.out.mono (Nat.le_refl _) (Nat.le_refl _), ⟨_, hb17.size, L_kg.out.mono (Nat.le_refl _) (Nat.le_refl _), ⟨_, hb18.size, L_kh.out.mono (Nat.le_refl _) (Nat.le_refl _), (Nat.le_refl _)⟩⟩⟩
      have HO3 : Hid (∃ F, Els 30 wd.heap.size w18 [(A_kf, n_kf, c_kf), (A_kg, n_kg, c_kg), (A_kh, n_kh, c_kh)] F) := ⟨_, ((Els.one (((o_kf.mono (bt (bt (bt (bt (bt (bt (bt (bt (bt (bt (Below.refl _ _).drew hb_thr) hb_v) hb11) hb12) hb13) hb14) hb15) K3.out.2) hb_rr) hb_rs).size).below hb17).below hb18)).app (Els.one ((o_kg.mono (bt (bt (bt (bt (bt (bt (bt (bt (bt (bt (bt (Below.refl _ _).drew hb_thr) hb_v) hb11) hb12) hb13) hb14) hb15) K3.out.2) hb_rr) hb_rs) hb16).size).below hb18))).app (Els.one (o_kh.mono (bt (bt (bt (bt (bt (bt (bt (bt (bt (bt (bt (bt (Below.refl _ _).drew hb_thr) hb_v) hb11) hb12) hb13) hb14) hb15) K3.out.2) hb_rr) hb_rs) hb16) hb17).size))⟩
      have HKA := Lib.hid (((((K3.out.1.below hb_rr).below hb_rs).below hb16).below hb17).below hb18)
      have HRR := Lib.hid (((((L_rr.out.1).below hb_rs).below hb16).below hb17).below hb18).rd
      have HRS := Lib.hid ((((L_rs.out.1).below hb16).below hb17).below hb18).rd
      have hl3 : n_kf ≤ 10 ∧ n_kg ≤ 10 ∧ n_kh ≤ 10 := ⟨l_kf, l_kg, by omega⟩
      have ZK := K3.out.2.size
      have HBH := Lib.hid (bt (bt (bt (bt (bt (bt (bt (bt (bt (bt (bt (bt (bt (Below.refl _ _).drew hb_thr) hb_v) hb11) hb12) hb13) hb14) hb15) K3.out.2) hb_rr) hb_rs) hb16) hb17) hb18)
      have WS1 : Hid (w.heap.size ≤ wm.heap.size ∧ w.heap.size ≤ (World.drew wm).heap.size ∧ w.heap.size ≤ (World.drew w4).heap.size ∧ w.heap.size ≤ wd.heap.size ∧ w.heap.size ≤ (World.drew wd).heap.size ∧ w.heap.size ≤ wa3.heap.size ∧ w.heap.size ≤ wq1.heap.size) := by
        have := HB0.out
        refine ⟨?_, ?_, ?_, ?_, ?_, ?_, ?_⟩ <;> first | omega | (simp only [World.drew_heap]; omega)
      have ELS : Hid (∃ F, Els 30 w.heap.size w18 (ss_one ++ ss_two ++ ss_thr ++ ss_rr ++ ss_rs ++ [(A_kf, n_kf, c_kf), (A_kg, n_kg, c_kg), (A_kh, n_kh, c_kh)]) F) := by
        obtain ⟨F3, h3⟩ := HO3.out
        exact ⟨_, ((((((((((((((((((((Y1.out.below (Below.refl _ _).drew).below hb_thr).below hb_v).below hb11).below hb12).below hb13).below hb14).below hb15).below K3.out.2).below hb_rr).below hb_rs).below hb16).below hb17).below hb18).mono WS1.out.2.1).app (((((((((((((((Y2.out.below (Below.refl _ _).drew).below hb_thr).below hb_v).below hb11).below hb12).below hb13).below hb14).below hb15).below K3.out.2).below hb_rr).below hb_rs).below hb16).below hb17).below hb18).mono WS1.out.2.2.1)).app ((((((((((((((L_thr.out.2.1).below hb_v).below hb11).below hb12).below hb13).below hb14).below hb15).below K3.out.2).below hb_rr).below hb_rs).below hb16).below hb17).below hb18).mono WS1.out.2.2.2.2.1)).app ((((((L_rr.out.2.1).below hb_rs).below hb16).below hb17).below hb18).mono WS1.out.2.2.2.2.2.1)).app (((((L_rs.out.2.1).below hb16).below hb17).below hb18).mono WS1.out.2.2.2.2.2.2)).app (h3.mono WS1.out.2.2.2.1))⟩
      have HCH : Hid (Chain (World.drew wm).heap.size (ss_one ++ ss_two ++ ss_thr ++ ss_rr ++ ss_rs ++ [(A_kf, n_kf, c_kf), (A_kg, n_kg, c_kg), (A_kh, n_kh, c_kh)]) w18.heap.size) := (((((L_one.out.2.2.1.mono (Nat.le_refl _) (by omega)).app (L_two.out.2.2.1.mono (Nat.le_refl _) (by omega))).app (L_thr.out.2.2.1.mono (Nat.le_refl _) (by omega))).app (L_rr.out.2.2.1.mono (Nat.le_refl _) (Nat.le_refl _))).app (L_rs.out.2.2.1.mono (Nat.le_refl _) (Nat.le_refl _))).app HC3.out
      have HLN : Hid (∀ (i : Nat) (s : Sh), (ss_one ++ ss_two ++ ss_thr ++ ss_rr ++ ss_rs ++ [(A_kf, n_kf, c_kf), (A_kg, n_kg, c_kg), (A_kh, n_kh, c_kh)])[i]? = some s → s.2.1 ≤ 67108864) := by
        refine all_app (all_app (all_app (all_app (all_app (fun i s h => ?_) (fun i s h => ?_)) (fun i s h => ?_)) (fun i s h => ?_)) (fun i s h => ?_)) (fun i s h => ?_)
        · have := L_one.out.2.2.2.1 i s h; omega
        · have := L_two.out.2.2.2.1 i s h; omega
        · have := L_thr.out.2.2.2.1 i s h; omega
        · have h1 := (L_rr.out.2.2.2.1 i s h).2; have h2 := (List.getElem?_eq_some_iff.1 h).1; rw [L_rr.out.len] at h2; omega
        · have h1 := (L_rs.out.2.2.2.1 i s h).2; have h2 := (List.getElem?_eq_some_iff.1 h).1; rw [L_rs.out.len] at h2; omega
        · have h2 := (List.getElem?_eq_some_iff.1 h).1
          have h3 : i < 3 := by simpa using h2
          match i, h3 with
          | 0, _ => simp at h; subst h; simp only; omega
          | 1, _ => simp at h; subst h; simp only; omega
          | 2, _ => simp at h; subst h; simp only; omega
      have HBK : Hid (∀ b, Blk (ss_one ++ ss_two ++ ss_thr ++ ss_rr ++ ss_rs ++ [(A_kf, n_kf, c_kf), (A_kg, n_kg, c_kg), (A_kh, n_kh, c_kh)]) b → ((World.drew wm).heap.size ≤ b ∧ b < wv2.heap.size) ∨ (World.drew wd).heap.size ≤ b) := by
        intro b hb
        rcases blk_app hb with hb | hb
        · rcases blk_app hb with hb | hb
          · rcases blk_app hb with hb | hb
            · rcases blk_app hb with hb | hb
              · rcases blk_app hb with hb | hb
                · have := L_one.out.2.2.1.blk hb; omega
                · have := L_two.out.2.2.1.blk hb; omega
              · have := L_thr.out.2.2.1.blk hb; omega
            · have := L_rr.out.2.2.1.blk hb; omega
          · have := L_rs.out.2.2.1.blk hb; omega
        · have := HC3.out.blk hb; omega
      have RL_rs := Lib.hid L_rs.out.1.lies
      have RL_a3 := Lib.hid K3.out.1.lies
      have ZB : Hid (w.heap.size ≤ wd.heap.size) := WS1.out.2.2.2.1
      go_wp2_with (first
        | (at_builtin; (refine wpList_appVs rfl (.tmp 167) (.tmp 168) rfl HES.out (B := w15.heap.size) rfl rfl HKA.out HRR.out (shv_one _) (by omega) (by simp) (by omega) ?_); intro A_a4 c_a4 wa4 ha4 hba4 hga4; have K4 : Hid (RowV 23 w15.heap.size wa4 A_a4 43 c_a4 ((ss_one ++ ss_two ++ ss_thr ++ ss_rr).map shv) ∧ Below w15.heap.size w18 wa4 ∧ ∃ F, Els 30 w.heap.size wa4 (ss_one ++ ss_two ++ ss_thr ++ ss_rr ++ ss_rs ++ [(A_kf, n_kf, c_kf), (A_kg, n_kg, c_kg), (A_kh, n_kh, c_kh)]) F) := ⟨(by rw [List.map_append (l₂ := ss_rr)]; exact ha4), hba4, (by obtain ⟨F, hF⟩ := ELS.out; exact ⟨F, hF.grown HKA.out (by decide) hga4⟩)⟩; have HS4 : Hid (RdV wa4 A_rs 7 c_rs (ss_rs.map shv)) := HRS.out.ex (Ex.grown hga4 (fun q hq => own_blk hq)) (fun a e hs => by obtain ⟨a2, e2, e3⟩ := hs; have h1 := RL_rs.out a e; have h2 := RL_a3.out a2 e2; omega); clear ha4 hba4 hga4)
        | (at_builtin; (refine wpList_appVs rfl (.tmp 169) (.tmp 170) rfl HES.out (B := w15.heap.size) rfl rfl K4.out.1 HS4.out (shv_one _) (by omega) (by simp) (by have := K4.out.2.1.size; omega) ?_); intro A_a5 c_a5 wa5 ha5 hba5 hga5; have K5 : Hid (RowV 23 w15.heap.size wa5 A_a5 50 c_a5 ((ss_one ++ ss_two ++ ss_thr ++ ss_rr ++ ss_rs).map shv) ∧ Below w15.heap.size w18 wa5 ∧ ∃ F, Els 30 w.heap.size wa5 (ss_one ++ ss_two ++ ss_thr ++ ss_rr ++ ss_rs ++ [(A_kf, n_kf, c_kf), (A_kg, n_kg, c_kg), (A_kh, n_kh, c_kh)]) F) := ⟨(by rw [List.map_append (l₂ := ss_rs)]; exact ha5), K4.out.2.1.trans hba5, (by obtain ⟨F, hF⟩ := K4.out.2.2; exact ⟨F, hF.grown K4.out.1 (by decide) hga5⟩)⟩; clear ha5 hba5 hga5)
        | (at_builtin; (refine wpList_appVs rfl (.tmp 171) (.tmp 175) rfl HES.out (B := w15.heap.size) (us := [.slice A_kf n_kf c_kf, .slice A_kg n_kg c_kg, .slice A_kh n_kh c_kh]) rfl rfl (K5.out.1.below (belowA _ _)) (RowV.lit (T := 23) (B := 0) _ [.slice A_kf n_kf c_kf, .slice A_kg n_kg c_kg, .slice A_kh n_kh c_kh] rfl (by simp) (Nat.zero_le _)).rd (by simp [Value.oneCell']) (by omega) (by simp) (by have := K5.out.2.1.size; simp; omega) ?_); intro A_a6 c_a6 wa6 ha6 hba6 hga6; have K6 : Hid (RowV 23 w15.heap.size wa6 A_a6 53 c_a6 (((ss_one ++ ss_two ++ ss_thr ++ ss_rr ++ ss_rs ++ [(A_kf, n_kf, c_kf), (A_kg, n_kg, c_kg), (A_kh, n_kh, c_kh)])).map shv) ∧ Below w15.heap.size w18 wa6 ∧ ∃ F, Els 30 w.heap.size wa6 (ss_one ++ ss_two ++ ss_thr ++ ss_rr ++ ss_rs ++ [(A_kf, n_kf, c_kf), (A_kg, n_kg, c_kg), (A_kh, n_kh, c_kh)]) F) := ⟨(by rw [List.map_append (l₂ := [(A_kf, n_kf, c_kf), (A_kg, n_kg, c_kg), (A_kh, n_kh, c_kh)])]; exact ha6), (K5.out.2.1.trans ((Below.refl _ _).alloc (by have := K5.out.2.1.size; omega) _)).trans hba6, (by obtain ⟨F, hF⟩ := K5.out.2.2; exact ⟨F, (hF.below (belowA _ _)).grown (K5.out.1.below (belowA _ _)) (by decide) hga6⟩)⟩; clear ha6 hba6 hga6))
      obtain ⟨FA, hFA⟩ := K6.out.2.2
      have EA := Lib.hid hFA
      clear hFA
      have Z15 := K6.out.2.1.size
      refine (apart3_any (B := w.heap.size) (M := 0) K6.out.1.rd EA.out HCH.out.apt (K6.out.1.apart EA.out (by decide)) HLN.out (by omega) (by have := ZB.out; omega)).mono ?_
      rintro e wz ⟨rfl, hxz⟩
      have EXF : Hid (Ex (fun j => ((World.drew wm).heap.size ≤ j ∧ j < wv2.heap.size) ∨ (World.drew wd).heap.size ≤ j) w18 wz) := ((Ex.of_base K6.out.2.1).mono (fun j hj => .inr (by omega))).trans (hxz.mono (fun j hj => HBK.out j hj))
      clear hxz
      have HBZ : Hid (Below w.heap.size w wz) := (bt HBD.out HBH.out).trans (EXF.out.below (fun j hj => by have := WS1.out.2.1; have := WS1.out.2.2.2.2.1; omega) (bt HBD.out HBH.out).size)
      have Fc := Lib.hid (((((((((((((((Oc.out.below (Below.refl _ _).drew).below hb_thr).below hb_v).below hb11).below hb12).below hb13).below hb14).below hb15).below K3.out.2).below hb_rr).below hb_rs).below hb16).below hb17).below hb18).ex EXF.out (fun a e hs => by have := L_c.out a e; omega))
      have Fx := Lib.hid (((((((((((((((Ox.out.below (Below.refl _ _).drew).below hb_thr).below hb_v).below hb11).below hb12).below hb13).below hb14).below hb15).below K3.out.2).below hb_rr).below hb_rs).below hb16).below hb17).below hb18).ex EXF.out (fun a e hs => by have := L_x1.out a e; omega))
      have Fy := Lib.hid (((((((((((((((Oy.out.below (Below.refl _ _).drew).below hb_thr).below hb_v).below hb11).below hb12).below hb13).below hb14).below hb15).below K3.out.2).below hb_rr).below hb_rs).below hb16).below hb17).below hb18).ex EXF.out (fun a e hs => by have := L_y1.out a e; omega))
      go_wp2_with fail
      refine (whole3_any Fc.out.rd (by omega)).mono ?_
      rintro e w19 ⟨A_u1, c_u1, rfl, o_u1, hb19⟩
      go_wp2_with fail
      refine (same3_yes (Fx.out.below hb19).rd o_u1.rd rfl (by omega)).mono ?_
      rintro e w20 ⟨rfl, hb20⟩
      go_wp2_with fail
      refine (whole3_any (((H'.out.below HBZ.out).below hb19).below hb20) (by omega)).mono ?_
      rintro e w21 ⟨A_u2, c_u2, rfl, o_u2, hb21⟩
      go_wp2_with fail
      refine (same3_yes (((Fy.out.below hb19).below hb20).below hb21).rd o_u2.rd rfl (by omega)).mono ?_
      rintro e w22 ⟨rfl, hb22⟩
      have HEND : Hid (Below w.heap.size w w22) := bt HBZ.out (bt (bt (bt hb19 hb20) hb21) hb22)
      go_wp2
      go_ret
      exact ⟨by simp, HEND.out⟩
end Go.Proofs.Ytajoafcondgelaa
