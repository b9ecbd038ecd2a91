/-
  surdref05.SameInt, surdref08.Same, surdref10.Same, surdref26.Like, surdlaw26.like. surdref26.Like, surdlaw26.like, EnvGathers.
-/
import Derived.Test.YtphofjinncbaaaaGreatEnvP
namespace Go.Proofs.YtphofjinncbaaaaGreat
open Go.RowKit
set_option linter.unusedVariables false
set_option linter.unusedSimpArgs false

theorem dg_injs {x y : Nat} : (dg W x = dg W y) ↔ x = y := ⟨fun h => by rw [← dg_val W_gt x, h, dg_val W_gt], fun h => by rw [h]⟩
theorem same5d_any {A A2 : Option Addr} {n c m c2 : Nat} {xs ys : List Nat} {d : Bool} {w : World} (h : Rd .u64 w A n c xs) (h' : Rd .u64 w A2 m c2 ys) (hd : decide (xs = ys) = d) (hn : n ≤ 1099511627776) :
    Calls Tryz.prog 42 #[.slice A n c, .slice A2 m c2] w (Keeps (.bool d) w) :=
  (same5q_any h h' hn).mono fun _ _ ⟨he, q, hq⟩ => ⟨by rw [he, hd], by rw [hq]; exact below_drewN _ _⟩
set_option maxHeartbeats 400000 in
theorem sameInt_any {A A2 : Option Addr} {n c m c2 : Nat} {xs ys : List Nat} {s t : Bool} {w : World} (h : Rd .u64 w A n c xs) (h' : Rd .u64 w A2 m c2 ys) (hn : n ≤ 1099511627776) :
    Calls Tryz.prog 63 #[.agg #[.bool s, .slice A n c], .agg #[.bool t, .slice A2 m c2]] w (Keeps (.bool (decide (s = t ∧ xs = ys))) w) := by
  have H := Lib.hid h
  have H' := Lib.hid h'
  clear h h'
  go_enter Tryz.func63, Tryz.ntmps63
  have e0 := ((At.boxc (i := 0) (v := .bool s) (t := 60) (b := w.heap.size) w #[.bool s, .slice A n c] rfl (by simp)).below ((Below.refl _ _).alloc (Nat.le_refl _) (.cells #[.bool t, .slice A2 m c2] 60))).1
  have e1 := ((At.boxc (i := 1) (v := .slice A n c) (t := 60) (b := w.heap.size) w #[.bool s, .slice A n c] rfl (by simp)).below ((Below.refl _ _).alloc (Nat.le_refl _) (.cells #[.bool t, .slice A2 m c2] 60))).1
  have e2 := (At.boxc (i := 0) (v := .bool t) (t := 60) (b := w.heap.size + 1) (World.alloc w (.cells #[.bool s, .slice A n c] 60)) #[.bool t, .slice A2 m c2] rfl (by simp)).1
  have e3 := (At.boxc (i := 1) (v := .slice A2 m c2) (t := 60) (b := w.heap.size + 1) (World.alloc w (.cells #[.bool s, .slice A n c] 60)) #[.bool t, .slice A2 m c2] rfl (by simp)).1
  by_cases hst : s = t
  · have q0 : (s == t) = true := by simp [hst]
    obtain ⟨d, hd⟩ : ∃ d, decide (xs = ys) = d := ⟨_, rfl⟩
    have HD : Hid (decide (s = t ∧ xs = ys) = d) := by show _ = _; rw [← hd]; simp [hst]
    have HD2 := Lib.hid hd
    clear hd hst
    go_wp2_with fail
    refine (same5d_any ((H.out.below ((Below.refl _ _).alloc (Nat.le_refl _) (.cells #[.bool s, .slice A n c] 60))).below ((Below.refl _ _).alloc (Nat.le_refl _) (.cells #[.bool t, .slice A2 m c2] 60))) ((H'.out.below ((Below.refl _ _).alloc (Nat.le_refl _) (.cells #[.bool s, .slice A n c] 60))).below ((Below.refl _ _).alloc (Nat.le_refl _) (.cells #[.bool t, .slice A2 m c2] 60))) HD2.out hn).mono ?_
    rintro e w1 ⟨rfl, hb1⟩
    have HB : Hid (Below w.heap.size w w1) := (bt (bt ((Below.refl _ _).alloc (Nat.le_refl _) (.cells #[.bool s, .slice A n c] 60)) ((Below.refl _ _).alloc (Nat.le_refl _) (.cells #[.bool t, .slice A2 m c2] 60))) hb1)
    go_wp2
    go_ret
    exact ⟨by rw [HD.out]; rfl, HB.out⟩
  · have q0 : (s == t) = false := by simp [hst]
    have HD : Hid (decide (s = t ∧ xs = ys) = false) := by show _ = _; simp [hst]
    clear hst
    have HB : Hid (Below w.heap.size w (World.alloc (World.alloc w (.cells #[.bool s, .slice A n c] 60)) (.cells #[.bool t, .slice A2 m c2] 60))) := (bt ((Below.refl _ _).alloc (Nat.le_refl _) (.cells #[.bool s, .slice A n c] 60)) ((Below.refl _ _).alloc (Nat.le_refl _) (.cells #[.bool t, .slice A2 m c2] 60)))
    go_wp2
    go_ret
    exact ⟨by rw [HD.out]; rfl, HB.out⟩
theorem canq_eq {q q2 : Cn} : q = q2 ↔ ((decide (q.1 < 0) = decide (q2.1 < 0) ∧ dg W q.1.natAbs = dg W q2.1.natAbs) ∧ dg W q.2 = dg W q2.2) := by
  rw [dg_injs, dg_injs]
  constructor
  · rintro rfl; exact ⟨⟨rfl, rfl⟩, rfl⟩
  · rintro ⟨⟨h1, h2⟩, h3⟩
    have h4 : (q.1 < 0) ↔ (q2.1 < 0) := by simpa using h1
    exact Prod.ext (by omega) h3
set_option maxHeartbeats 400000 in
theorem same8_any {A1 A2 B1 B2 : Option Addr} {n1 c1 n2 c2 m1 d1 m2 d2 : Nat} {s t : Bool} {q q2 : Cn} {w : World} (hs : Hid (s = decide (q.1 < 0))) (ht : Hid (t = decide (q2.1 < 0))) (h1 : Rd .u64 w A1 n1 c1 (dg W q.1.natAbs)) (h2 : Rd .u64 w A2 n2 c2 (dg W q.2)) (h3 : Rd .u64 w B1 m1 d1 (dg W q2.1.natAbs)) (h4 : Rd .u64 w B2 m2 d2 (dg W q2.2)) (hn1 : n1 ≤ 1099511627776) (hn2 : n2 ≤ 1099511627776) :
    Calls Tryz.prog 51 #[.agg #[.bool s, .slice A1 n1 c1, .slice A2 n2 c2], .agg #[.bool t, .slice B1 m1 d1, .slice B2 m2 d2]] w (Keeps (.bool (decide (q = q2))) w) := by
  have H1 := Lib.hid h1
  have H2 := Lib.hid h2
  have H3 := Lib.hid h3
  have H4 := Lib.hid h4
  clear h1 h2 h3 h4
  go_enter Tryz.func51, Tryz.ntmps51
  have e0 := ((At.boxc (i := 0) (v := .bool s) (t := 62) (b := w.heap.size) w #[.bool s, .slice A1 n1 c1, .slice A2 n2 c2] rfl (by simp)).below ((Below.refl _ _).alloc (Nat.le_refl _) (.cells #[.bool t, .slice B1 m1 d1, .slice B2 m2 d2] 62))).1
  have e1 := ((At.boxc (i := 1) (v := .slice A1 n1 c1) (t := 62) (b := w.heap.size) w #[.bool s, .slice A1 n1 c1, .slice A2 n2 c2] rfl (by simp)).below ((Below.refl _ _).alloc (Nat.le_refl _) (.cells #[.bool t, .slice B1 m1 d1, .slice B2 m2 d2] 62))).1
  have e2 := (At.boxc (i := 0) (v := .bool t) (t := 62) (b := w.heap.size + 1) (World.alloc w (.cells #[.bool s, .slice A1 n1 c1, .slice A2 n2 c2] 62)) #[.bool t, .slice B1 m1 d1, .slice B2 m2 d2] rfl (by simp)).1
  have e3 := (At.boxc (i := 1) (v := .slice B1 m1 d1) (t := 62) (b := w.heap.size + 1) (World.alloc w (.cells #[.bool s, .slice A1 n1 c1, .slice A2 n2 c2] 62)) #[.bool t, .slice B1 m1 d1, .slice B2 m2 d2] rfl (by simp)).1
  obtain ⟨d, hd⟩ : ∃ d, decide (s = t ∧ dg W q.1.natAbs = dg W q2.1.natAbs) = d := ⟨_, rfl⟩
  have C := Lib.hid (sameInt_any (s := s) (t := t) ((H1.out.below ((Below.refl _ _).alloc (Nat.le_refl _) (.cells #[.bool s, .slice A1 n1 c1, .slice A2 n2 c2] 62))).below ((Below.refl _ _).alloc (Nat.le_refl _) (.cells #[.bool t, .slice B1 m1 d1, .slice B2 m2 d2] 62))) ((H3.out.below ((Below.refl _ _).alloc (Nat.le_refl _) (.cells #[.bool s, .slice A1 n1 c1, .slice A2 n2 c2] 62))).below ((Below.refl _ _).alloc (Nat.le_refl _) (.cells #[.bool t, .slice B1 m1 d1, .slice B2 m2 d2] 62))) hn1)
  rw [hd] at C
  have HD := Lib.hid hd
  clear hd
  go_wp2_with fail
  refine (C.out).mono ?_
  rintro e w1 ⟨rfl, hb1⟩
  clear e0 e1 e2 e3 C
  cases d
  · have HF : Hid (decide (q = q2) = false) := by
      rw [show (Hid (decide (q = q2) = false)) = (decide (q = q2) = false) from rfl, decide_eq_false_iff_not, canq_eq]
      rintro ⟨h, _⟩
      have h5 := HD.out
      rw [hs.out, ht.out, decide_eq_false_iff_not] at h5
      exact h5 h
    have HB : Hid (Below w.heap.size w w1) := (bt (bt ((Below.refl _ _).alloc (Nat.le_refl _) (.cells #[.bool s, .slice A1 n1 c1, .slice A2 n2 c2] 62)) ((Below.refl _ _).alloc (Nat.le_refl _) (.cells #[.bool t, .slice B1 m1 d1, .slice B2 m2 d2] 62))) hb1)
    go_wp2
    go_ret
    exact ⟨by rw [HF.out]; rfl, HB.out⟩
  · obtain ⟨d2', hd2⟩ : ∃ d, decide (dg W q.2 = dg W q2.2) = d := ⟨_, rfl⟩
    have HF : Hid (decide (q = q2) = d2') := by
      rw [← hd2]
      show _ = _
      rw [decide_eq_decide, canq_eq]
      have h5 := HD.out
      rw [hs.out, ht.out, decide_eq_true_iff] at h5
      exact ⟨fun h => h.2, fun h => ⟨h5, h⟩⟩
    have HD2 := Lib.hid hd2
    clear hd2
    have e4 := (((At.boxc (i := 2) (v := .slice A2 n2 c2) (t := 62) (b := w.heap.size) w #[.bool s, .slice A1 n1 c1, .slice A2 n2 c2] rfl (by simp)).below ((Below.refl _ _).alloc (Nat.le_refl _) (.cells #[.bool t, .slice B1 m1 d1, .slice B2 m2 d2] 62))).below hb1).1
    have e5 := ((At.boxc (i := 2) (v := .slice B2 m2 d2) (t := 62) (b := w.heap.size + 1) (World.alloc w (.cells #[.bool s, .slice A1 n1 c1, .slice A2 n2 c2] 62)) #[.bool t, .slice B1 m1 d1, .slice B2 m2 d2] rfl (by simp)).below hb1).1
    go_wp2_with fail
    refine (same5d_any (((H2.out.below ((Below.refl _ _).alloc (Nat.le_refl _) (.cells #[.bool s, .slice A1 n1 c1, .slice A2 n2 c2] 62))).below ((Below.refl _ _).alloc (Nat.le_refl _) (.cells #[.bool t, .slice B1 m1 d1, .slice B2 m2 d2] 62))).below hb1) (((H4.out.below ((Below.refl _ _).alloc (Nat.le_refl _) (.cells #[.bool s, .slice A1 n1 c1, .slice A2 n2 c2] 62))).below ((Below.refl _ _).alloc (Nat.le_refl _) (.cells #[.bool t, .slice B1 m1 d1, .slice B2 m2 d2] 62))).below hb1) HD2.out hn2).mono ?_
    rintro e w2 ⟨rfl, hb2⟩
    have HB : Hid (Below w.heap.size w w2) := (bt (bt (bt ((Below.refl _ _).alloc (Nat.le_refl _) (.cells #[.bool s, .slice A1 n1 c1, .slice A2 n2 c2] 62)) ((Below.refl _ _).alloc (Nat.le_refl _) (.cells #[.bool t, .slice B1 m1 d1, .slice B2 m2 d2] 62))) hb1) hb2)
    clear e4 e5
    go_wp2
    go_ret
    exact ⟨by rw [HF.out]; rfl, HB.out⟩
theorem take_eq_snoc {α : Type} {l l2 : List α} {i : Nat} {x y : α} (h : l[i]? = some x) (h2 : l2[i]? = some y) (he : l.take i = l2.take i) (hxy : x = y) : l.take (i + 1) = l2.take (i + 1) := by
  rw [take_snoc h, take_snoc h2, he, hxy]
set_option maxHeartbeats 4000000 in
theorem same10_any {A A2 : Option Addr} {n c n2 c2 L L2 : Nat} {qs qs2 : List Cn} {w : World} (h : PolyC L w (.slice A n c) qs) (h' : PolyC L2 w (.slice A2 n2 c2) qs2) (hL : L ≤ 1099511627776) (hn : n ≤ 1073741824) :
    Calls Tryz.prog 12 #[.slice A n c, .slice A2 n2 c2] w (Keeps (.bool (decide (qs = qs2))) w) := by
  have H := Lib.hid h
  have H2 := Lib.hid h'
  have HN1 : Hid (n = qs.length) := by obtain ⟨_, _, _, hs, e, h1, h2, h3⟩ := h; injection e with _ e2 _; show _ = _; rw [e2]; exact h2
  have HN2 : Hid (n2 = qs2.length) := by obtain ⟨_, _, _, hs, e, h1, h2, h3⟩ := h'; injection e with _ e2 _; show _ = _; rw [e2]; exact h2
  clear h h'
  by_cases hnn : n = n2
  · subst hnn
    go_enter Tryz.func12, Tryz.ntmps12
    go_wp2
    go_loopw [5] (fun kv wr => ∃ (i : Nat), Hid (Below w.heap.size w wr ∧ qs.take i = qs2.take i) ∧ i ≤ n ∧ kv = .int .i64 (i : Int)) (fun kv _ => n - (intOf kv).toNat)
    case atStart => exact ⟨0, ⟨Below.refl _ _, by simp⟩, Nat.zero_le _, rfl⟩
    case round =>
      obtain ⟨i, hI, hi, rfl⟩ := hrel
      by_cases hlt : i < n
      · obtain ⟨b, off, s, A1, n1, c1, A3, n3, c3, q, e, hb, eq, hs, x0, x1, x2, ⟨k1, k2⟩, k3, k4⟩ := (H.out.below hI.out.1).at (i := i) (by have := HN1.out; omega)
        obtain ⟨b', off', t, B1, m1, d1, B3, m3, d3, q', e', hb', eq', hs', y0, y1, y2, ⟨l1, l2⟩, l3, l4⟩ := (H2.out.below hI.out.1).at (i := i) (by have := HN2.out; omega)
        subst e e'
        have HQ := Lib.hid eq
        have HQ' := Lib.hid eq'
        clear eq eq'
        have i1 : (0 : Int) ≤ (i : Int) := by omega
        have i2 : (i : Int) < (n : Int) := by omega
        have C := Lib.hid (same8_any (w := World.drew wr) hs hs' (k1.below (Below.refl _ _).drew) (k3.below (Below.refl _ _).drew) (l1.below (Below.refl _ _).drew) (l3.below (Below.refl _ _).drew) (by omega) (by omega))
        have Xf0 : Hid (At wr _ _) := ⟨x0, hb⟩
        have Xf1 : Hid (At wr _ _) := ⟨x1, hb⟩
        have Xf2 : Hid (At wr _ _) := ⟨x2, hb⟩
        have Xg0 : Hid (At wr _ _) := ⟨y0, hb'⟩
        have Xg1 : Hid (At wr _ _) := ⟨y1, hb'⟩
        have Xg2 : Hid (At wr _ _) := ⟨y2, hb'⟩
        clear x0 x1 x2 y0 y1 y2 k1 k2 k3 k4 l1 l2 l3 l4 hs hs'
        obtain ⟨d, hd⟩ : ∃ d, decide (q = q') = d := ⟨_, rfl⟩
        rw [hd] at C
        have HD := Lib.hid hd
        clear hd
        go_wp2_with fail
        go_wp2_with fail
        have e_f0 := Xf0.out.1
        have g_f0 := At.grow Xf0.out
        have e_f1 := Xf1.out.1
        have g_f1 := At.grow Xf1.out
        have e_f2 := Xf2.out.1
        have g_f2 := At.grow Xf2.out
        have e_g0 := Xg0.out.1
        have g_g0 := At.grow Xg0.out
        have e_g1 := Xg1.out.1
        have g_g1 := At.grow Xg1.out
        have e_g2 := Xg2.out.1
        have g_g2 := At.grow Xg2.out
        refine wp_region_grow none [(true, 0), (true, 1), (true, 2), (true, 3), (true, 4), (true, 5), (true, 6), (true, 7), (false, 8), (true, 9)] (by kernel_rfl) (by kernel_rfl) ?_
        repeat (refine ord_pas (by rfl) (fun K hK => ?_); go_simp; refine hK _ _ (fun w' hw' => (by first | (go_simp; done) | (go_simp; intro hh; cases hh))) ?_; clear hK K)
        (refine ord_call (by rfl) (fun K hK => ?_); go_simp; refine hK _ _ ?_; clear hK K)
        refine (C.out).mono ?_
        rintro e w1 ⟨rfl, hb1⟩
        refine ⟨_, rfl, Grow.of_below hb1, ?_⟩
        (refine ord_norm (fun K hK => ?_); go_simp; refine hK _ ?_; clear hK K)
        repeat (refine ord_pas (by rfl) (fun K hK => ?_); go_simp; refine hK _ _ (fun w' hw' => (by first | (go_simp; done) | (go_simp; intro hh; cases hh))) ?_; clear hK K)
        refine ord_nil ?_
        have HB := Lib.hid (bt hI.out.1 (bt (Below.refl _ _).drew hb1))
        cases d
        · have HF : Hid (decide (qs = qs2) = false) := by
            show _ = _
            rw [decide_eq_false_iff_not]
            rintro rfl
            have h5 := HQ.out.symm.trans HQ'.out
            injection h5 with h5
            have h6 := HD.out
            rw [decide_eq_false_iff_not] at h6
            exact h6 h5
          clear hI
          go_wp2
          go_ret
          exact ⟨by rw [HF.out]; rfl, HB.out⟩
        · skip
          have HN : Hid (Below w.heap.size w w1 ∧ qs.take (i + 1) = qs2.take (i + 1)) := ⟨HB.out, take_eq_snoc HQ.out HQ'.out hI.out.2 (of_decide_eq_true HD.out)⟩
          clear hI
          go_wp2
          go_roundw
          case rel => exact ⟨i + 1, HN, by omega, by go_num⟩
          case measure => simp [intOf]; omega
      · obtain rfl : i = n := by omega
        have HT : Hid (decide (qs = qs2) = true ∧ Below w.heap.size w wr) := by
          refine ⟨?_, hI.out.1⟩
          have h5 := hI.out.2
          rw [List.take_of_length_le (by have := HN1.out; omega), List.take_of_length_le (by have := HN2.out; omega)] at h5
          simp [h5]
        clear hI
        go_wp2
        go_ret
        exact ⟨by rw [HT.out.1]; rfl, HT.out.2⟩
  · have HF : Hid (decide (qs = qs2) = false) := by
      show _ = _
      rw [decide_eq_false_iff_not]
      rintro rfl
      have := HN1.out
      have := HN2.out
      omega
    have d1 : ((n : Int) == (n2 : Int)) = false := by rw [beq_eq_false_iff_ne]; omega
    have d2 : ((n : Int) != (n2 : Int)) = true := by simp [bne, d1]
    go_enter Tryz.func12, Tryz.ntmps12
    go_wp2
    go_ret
    exact ⟨by rw [HF.out]; rfl, Below.refl _ _⟩
end Go.Proofs.YtphofjinncbaaaaGreat
namespace Go.Proofs.YtphofjinncbaaaaGreat
open Go.RowKit
set_option linter.unusedVariables false
set_option linter.unusedSimpArgs false

/-- a binding that can be read -/
def RdB (L : Nat) (w : World) (h : Hb) (q : Bq) : Prop := h.1 = q.1 ∧ PolyC L w (shv h.2) q.2 ∧ h.2.2.1 ≤ 1073741824
def ListC (L : Nat) (w : World) (A : Option Addr) (n c : Nat) (qs : List Bq) : Prop := ∃ hs, RdK 2 w A n c (hs.flatMap hbv) ∧ All2 (RdB L w) hs qs
theorem RdB.below {L : Nat} {w w' : World} {h : Hb} {q : Bq} (H : RdB L w h q) (hb : Below w.heap.size w w') : RdB L w' h q := ⟨H.1, H.2.1.below hb, H.2.2⟩
theorem ListC.below {L n c : Nat} {w w' : World} {A : Option Addr} {qs : List Bq} (H : ListC L w A n c qs) (hb : Below w.heap.size w w') : ListC L w' A n c qs := by
  obtain ⟨hs, h1, h2⟩ := H
  exact ⟨hs, h1.below hb, h2.imp fun _ _ e => e.below hb⟩
theorem OwnB.rdb {B L : Nat} {w : World} {h : Hb} {q : Bq} (H : OwnB B L w h q) : RdB L w h q := ⟨H.1, H.2.1.c, H.2.2.2⟩
theorem ListO.c {B L n c : Nat} {w : World} {A : Option Addr} {qs : List Bq} (H : ListO B L w A n c qs) : ListC L w A n c qs := by
  obtain ⟨hs, h1, h2⟩ := H
  exact ⟨hs, h1.rd, h2.imp fun _ _ e => e.rdb⟩
theorem ListR.c {B L n c : Nat} {w : World} {A : Option Addr} {qs : List Bq} (H : ListR B L w A n c qs) : ListC L w A n c qs := by
  obtain ⟨hs, h1, h2⟩ := H
  exact ⟨hs, h1.rd, h2.imp fun _ _ e => e.rdb⟩
theorem ListC.nil {L : Nat} {w : World} : ListC L w none 0 0 [] := ⟨[], RdK.nil, All2.nil⟩
theorem ListC.len {L n c : Nat} {w : World} {A : Option Addr} {qs : List Bq} (H : ListC L w A n c qs) : n = qs.length := by
  obtain ⟨hs, h1, h2⟩ := H
  have := h1.1.1
  rw [flat2_len hbv hbv_len, h2.1] at this
  omega
theorem ListC.at {L n c i : Nat} {w : World} {A : Option Addr} {qs : List Bq} (H : ListC L w A n c qs) (hi : i < qs.length) : ∃ b off A1 n1 c1 q, A = some ⟨b, off, none⟩ ∧ qs[i]? = some q ∧ At w ⟨b, off + i * 2, none⟩ (.string q.1) ∧ At w ⟨b, off + i * 2 + 1, none⟩ (.slice A1 n1 c1) ∧ PolyC L w (.slice A1 n1 c1) q.2 ∧ n1 ≤ 1073741824 := by
  obtain ⟨hs, h1, h2⟩ := H
  obtain ⟨hd, q, e1, e2, e3⟩ := h2.at hi
  obtain ⟨b, off, e, hb, g0, g1⟩ := h1.at2 e1
  obtain ⟨t, A1, n1, c1⟩ := hd
  have h3 : t = q.1 := e3.1
  subst h3
  exact ⟨b, off, A1, n1, c1, q, e, e2, g0, g1, e3.2.1, e3.2.2⟩
set_option maxHeartbeats 4000000 in
set_option maxRecDepth 100000 in
theorem like26_yes {A A2 : Option Addr} {n c n2 c2 L L2 : Nat} {qs : List Bq} {w : World} (h : ListC L w A n c qs) (h' : ListC L2 w A2 n2 c2 qs) (hL : L ≤ 1099511627776) (hn : n ≤ 1073741824) :
    Calls Tryz.prog 28 #[.slice A n c, .slice A2 n2 c2] w (Keeps (.bool true) w) := by
  have H := Lib.hid h
  have H2 := Lib.hid h'
  have HN1 : Hid (n = qs.length) := h.len
  have HN2 := h'.len
  obtain rfl : n2 = n := by have := HN1.out; omega
  clear h h' HN2
  go_enter Tryz.func28, Tryz.ntmps28
  go_wp2
  go_loopw [13] (fun kv wr => ∃ (i : Nat), Hid (Below w.heap.size w wr) ∧ i ≤ n2 ∧ kv = .int .i64 (i : Int)) (fun kv _ => n2 - (intOf kv).toNat)
  case atStart => exact ⟨0, Below.refl _ _, Nat.zero_le _, rfl⟩
  case round =>
    obtain ⟨i, hI, hi, rfl⟩ := hrel
    by_cases hlt : i < n2
    · obtain ⟨b, off, A1, n1, c1, q, e, eq, x0, x1, p1, hn1⟩ := (H.out.below hI.out).at (i := i) (by have := HN1.out; omega)
      obtain ⟨b', off', A3, n3, c3, q', e', eq', y0, y1, p3, hn3⟩ := (H2.out.below hI.out).at (i := i) (by have := HN1.out; omega)
      subst e e'
      have hqq : q = q' := by have := eq.symm.trans eq'; injection this
      subst hqq
      have X0 := Lib.hid x0
      have X1 := Lib.hid x1
      have Y0 := Lib.hid y0
      have Y1 := Lib.hid y1
      have i1 : (0 : Int) ≤ (i : Int) := by omega
      have i2 : (i : Int) < (n2 : Int) := by omega
      have C := Lib.hid (same10_any (p1.below (Below.refl _ _).drew) (p3.below (Below.refl _ _).drew) hL hn1)
      rw [show decide (q.2 = q.2) = true by simp] at C
      clear x0 x1 y0 y1 p1 p3 eq eq'
      go_wp2_with fail
      go_wp2_with fail
      have e_f0 := X0.out.1
      have g_f0 := At.grow X0.out
      have e_f1 := X1.out.1
      have g_f1 := At.grow X1.out
      have e_g0 := Y0.out.1
      have g_g0 := At.grow Y0.out
      have e_g1 := Y1.out.1
      have g_g1 := At.grow Y1.out
      refine wp_region_grow none [(true, 0), (true, 1), (true, 2), (true, 3), (true, 4), (true, 5), (true, 6), (true, 7), (true, 8), (true, 9), (true, 10), (true, 11), (true, 12), (true, 13), (true, 14), (true, 15), (true, 16), (true, 17), (true, 18), (true, 19), (true, 20), (true, 21), (false, 22), (true, 23), (true, 24)] (by kernel_rfl) (by kernel_rfl) ?_
      repeat (refine ord_pas (by rfl) (fun K hK => ?_); go_simp; refine hK _ _ (fun w' hw' => (by first | (go_simp; done) | (go_simp; intro hh; cases hh))) ?_; clear hK K)
      (refine ord_call (by rfl) (fun K hK => ?_); go_simp; refine hK _ _ ?_; clear hK K)
      refine (C.out).mono ?_
      rintro e w1 ⟨rfl, hb1⟩
      refine ⟨_, rfl, Grow.of_below hb1, ?_⟩
      (refine ord_norm (fun K hK => ?_); go_simp; refine hK _ ?_; clear hK K)
      repeat (refine ord_pas (by rfl) (fun K hK => ?_); go_simp; refine hK _ _ (fun w' hw' => (by first | (go_simp; done) | (go_simp; intro hh; cases hh))) ?_; clear hK K)
      refine ord_nil ?_
      have HB := Lib.hid (bt hI.out (bt (Below.refl _ _).drew hb1))
      clear hI
      go_wp2
      go_roundw
      case rel => exact ⟨i + 1, HB, by omega, by go_num⟩
      case measure => simp [intOf]; omega
    · obtain rfl : i = n2 := by omega
      go_wp2
      go_ret
      exact ⟨rfl, hI.out⟩
theorem like_yes {A A2 : Option Addr} {n c n2 c2 L L2 : Nat} {qs : List Bq} {w : World} (h : ListC L w A n c qs) (h' : ListC L2 w A2 n2 c2 qs) (hL : L ≤ 1099511627776) (hn : n ≤ 1073741824) :
    Calls Tryz.prog 16 #[.slice A n c, .slice A2 n2 c2] w (Keeps (.bool true) w) := by
  obtain ⟨hs, k1, k2⟩ := id h
  have C := Lib.hid (told_26 k1 hn)
  have K2 := Lib.hid k2
  have H2 := Lib.hid h'
  clear h h' k1 k2
  go_enter Tryz.func16, Tryz.ntmps16
  go_wp2_with fail
  refine C.out.mono ?_
  rintro e w1 ⟨A3, c3, rfl, hr, hb⟩
  have C2 := Lib.hid (like26_yes (L := L) (w := w1) ⟨hs, hr.rd, K2.out.imp fun _ _ e => e.below hb⟩ (H2.out.below hb) hL hn)
  have HB := Lib.hid hb
  clear hr hb C
  go_wp2_with fail
  refine C2.out.mono ?_
  rintro e w2 ⟨rfl, hb2⟩
  have HB2 : Hid (Below w.heap.size w w2) := bt HB.out hb2
  clear hb2 C2
  go_wp2
  go_ret
  exact ⟨rfl, HB2.out⟩
theorem gofR_bad {w w' : World} {L : Nat} {bs : List Bn} {e : Ending} (h : GOfR w L bs e w') (hz : ofc bs ≠ 0) : Below w.heap.size w w' ∧ e = .returned (.tuple #[.slice none 0 0, .int .i64 (ofc bs)]) := by
  obtain ⟨hb, ⟨_, h⟩ | ⟨h, _⟩ | ⟨h, _⟩⟩ := h
  · exact ⟨hb, h⟩
  · exact absurd h.out.1 hz
  · exact absurd h.out.1 hz
theorem gofR_many {w w' : World} {L : Nat} {bs : List Bn} {e : Ending} (h : GOfR w L bs e w') (hz : ofc bs = 0 ∧ 64 < (ofq [] bs).length) : Below w.heap.size w w' ∧ e = .returned (.tuple #[.slice none 0 0, .int .i64 12]) := by
  obtain ⟨hb, ⟨h, _⟩ | ⟨_, h⟩ | ⟨h, _⟩⟩ := h
  · exact absurd hz.1 h.out
  · exact ⟨hb, h⟩
  · have := h.out; omega
theorem gofR_good {w w' : World} {L : Nat} {bs : List Bn} {e : Ending} (h : GOfR w L bs e w') (hz : ofc bs = 0 ∧ (ofq [] bs).length ≤ 64) : Below w.heap.size w w' ∧ ∃ A m c, e = .returned (.tuple #[.slice A m c, .int .i64 0]) ∧ ListR w.heap.size L w' A m c (ofq [] bs) := by
  obtain ⟨hb, ⟨h, _⟩ | ⟨h, _⟩ | ⟨_, h⟩⟩ := h
  · exact absurd hz.1 h.out
  · have := h.out; omega
  · exact ⟨hb, h⟩
end Go.Proofs.YtphofjinncbaaaaGreat
