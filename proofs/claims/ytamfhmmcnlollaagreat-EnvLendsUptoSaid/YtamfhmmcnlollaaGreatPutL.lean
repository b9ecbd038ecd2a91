/-
  surdref05.SameInt, surdref08.Same, surdref10.Same, surdref26.Like, surdlaw26.like. surdref26.Like, surdlaw26.like, EnvGathers. slices.Delete of one binding. env.copied, place, Get, Put, Drop; surdref26.At, Get, Put, Drop. Lists of bindings, in plain Lean: where names stand, what is taken out, what is put over, what differs. surdref26.At, Get, Put, Drop; env.Put, Drop. env.Drop; surdref26.Drop; append onto an empty literal. EnvPuts, walked.
-/
import Derived.Test.YtamfhmmcnlollaaGreatEnvPL
namespace Go.Proofs.YtamfhmmcnlollaaGreat
open Go.RowKit
set_option linter.unusedVariables false
set_option linter.unusedSimpArgs false

theorem dg_injs {x y : Nat} : (dg W x = dg W y) ↔ x = y := ⟨fun h => by rw [← dg_val W_gt x, h, dg_val W_gt], fun h => by rw [h]⟩
theorem same5d_any {A A2 : Option Addr} {n c m c2 : Nat} {xs ys : List Nat} {d : Bool} {w : World} (h : Rd .u64 w A n c xs) (h' : Rd .u64 w A2 m c2 ys) (hd : decide (xs = ys) = d) (hn : n ≤ 1099511627776) :
    Calls Tryz.prog 14 #[.slice A n c, .slice A2 m c2] w (Keeps (.bool d) w) :=
  (same5q_any h h' hn).mono fun _ _ ⟨he, q, hq⟩ => ⟨by rw [he, hd], by rw [hq]; exact below_drewN _ _⟩
set_option maxHeartbeats 400000 in
theorem sameInt_any {A A2 : Option Addr} {n c m c2 : Nat} {xs ys : List Nat} {s t : Bool} {w : World} (h : Rd .u64 w A n c xs) (h' : Rd .u64 w A2 m c2 ys) (hn : n ≤ 1099511627776) :
    Calls Tryz.prog 34 #[.agg #[.bool s, .slice A n c], .agg #[.bool t, .slice A2 m c2]] w (Keeps (.bool (decide (s = t ∧ xs = ys))) w) := by
  have H := Lib.hid h
  have H' := Lib.hid h'
  clear h h'
  go_enter Tryz.func34, Tryz.ntmps34
  have e0 := ((At.boxc (i := 0) (v := .bool s) (t := 60) (b := w.heap.size) w #[.bool s, .slice A n c] rfl (by simp)).below ((Below.refl _ _).alloc (Nat.le_refl _) (.cells #[.bool t, .slice A2 m c2] 60))).1
  have e1 := ((At.boxc (i := 1) (v := .slice A n c) (t := 60) (b := w.heap.size) w #[.bool s, .slice A n c] rfl (by simp)).below ((Below.refl _ _).alloc (Nat.le_refl _) (.cells #[.bool t, .slice A2 m c2] 60))).1
  have e2 := (At.boxc (i := 0) (v := .bool t) (t := 60) (b := w.heap.size + 1) (World.alloc w (.cells #[.bool s, .slice A n c] 60)) #[.bool t, .slice A2 m c2] rfl (by simp)).1
  have e3 := (At.boxc (i := 1) (v := .slice A2 m c2) (t := 60) (b := w.heap.size + 1) (World.alloc w (.cells #[.bool s, .slice A n c] 60)) #[.bool t, .slice A2 m c2] rfl (by simp)).1
  by_cases hst : s = t
  · have q0 : (s == t) = true := by simp [hst]
    obtain ⟨d, hd⟩ : ∃ d, decide (xs = ys) = d := ⟨_, rfl⟩
    have HD : Hid (decide (s = t ∧ xs = ys) = d) := by show _ = _; rw [← hd]; simp [hst]
    have HD2 := Lib.hid hd
    clear hd hst
    go_wp2_with fail
    refine (same5d_any ((H.out.below ((Below.refl _ _).alloc (Nat.le_refl _) (.cells #[.bool s, .slice A n c] 60))).below ((Below.refl _ _).alloc (Nat.le_refl _) (.cells #[.bool t, .slice A2 m c2] 60))) ((H'.out.below ((Below.refl _ _).alloc (Nat.le_refl _) (.cells #[.bool s, .slice A n c] 60))).below ((Below.refl _ _).alloc (Nat.le_refl _) (.cells #[.bool t, .slice A2 m c2] 60))) HD2.out hn).mono ?_
    rintro e w1 ⟨rfl, hb1⟩
    have HB : Hid (Below w.heap.size w w1) := (bt (bt ((Below.refl _ _).alloc (Nat.le_refl _) (.cells #[.bool s, .slice A n c] 60)) ((Below.refl _ _).alloc (Nat.le_refl _) (.cells #[.bool t, .slice A2 m c2] 60))) hb1)
    go_wp2
    go_ret
    exact ⟨by rw [HD.out]; rfl, HB.out⟩
  · have q0 : (s == t) = false := by simp [hst]
    have HD : Hid (decide (s = t ∧ xs = ys) = false) := by show _ = _; simp [hst]
    clear hst
    have HB : Hid (Below w.heap.size w (World.alloc (World.alloc w (.cells #[.bool s, .slice A n c] 60)) (.cells #[.bool t, .slice A2 m c2] 60))) := (bt ((Below.refl _ _).alloc (Nat.le_refl _) (.cells #[.bool s, .slice A n c] 60)) ((Below.refl _ _).alloc (Nat.le_refl _) (.cells #[.bool t, .slice A2 m c2] 60)))
    go_wp2
    go_ret
    exact ⟨by rw [HD.out]; rfl, HB.out⟩
theorem canq_eq {q q2 : Cn} : q = q2 ↔ ((decide (q.1 < 0) = decide (q2.1 < 0) ∧ dg W q.1.natAbs = dg W q2.1.natAbs) ∧ dg W q.2 = dg W q2.2) := by
  rw [dg_injs, dg_injs]
  constructor
  · rintro rfl; exact ⟨⟨rfl, rfl⟩, rfl⟩
  · rintro ⟨⟨h1, h2⟩, h3⟩
    have h4 : (q.1 < 0) ↔ (q2.1 < 0) := by simpa using h1
    exact Prod.ext (by omega) h3
set_option maxHeartbeats 400000 in
theorem same8_any {A1 A2 B1 B2 : Option Addr} {n1 c1 n2 c2 m1 d1 m2 d2 : Nat} {s t : Bool} {q q2 : Cn} {w : World} (hs : Hid (s = decide (q.1 < 0))) (ht : Hid (t = decide (q2.1 < 0))) (h1 : Rd .u64 w A1 n1 c1 (dg W q.1.natAbs)) (h2 : Rd .u64 w A2 n2 c2 (dg W q.2)) (h3 : Rd .u64 w B1 m1 d1 (dg W q2.1.natAbs)) (h4 : Rd .u64 w B2 m2 d2 (dg W q2.2)) (hn1 : n1 ≤ 1099511627776) (hn2 : n2 ≤ 1099511627776) :
    Calls Tryz.prog 75 #[.agg #[.bool s, .slice A1 n1 c1, .slice A2 n2 c2], .agg #[.bool t, .slice B1 m1 d1, .slice B2 m2 d2]] w (Keeps (.bool (decide (q = q2))) w) := by
  have H1 := Lib.hid h1
  have H2 := Lib.hid h2
  have H3 := Lib.hid h3
  have H4 := Lib.hid h4
  clear h1 h2 h3 h4
  go_enter Tryz.func75, Tryz.ntmps75
  have e0 := ((At.boxc (i := 0) (v := .bool s) (t := 62) (b := w.heap.size) w #[.bool s, .slice A1 n1 c1, .slice A2 n2 c2] rfl (by simp)).below ((Below.refl _ _).alloc (Nat.le_refl _) (.cells #[.bool t, .slice B1 m1 d1, .slice B2 m2 d2] 62))).1
  have e1 := ((At.boxc (i := 1) (v := .slice A1 n1 c1) (t := 62) (b := w.heap.size) w #[.bool s, .slice A1 n1 c1, .slice A2 n2 c2] rfl (by simp)).below ((Below.refl _ _).alloc (Nat.le_refl _) (.cells #[.bool t, .slice B1 m1 d1, .slice B2 m2 d2] 62))).1
  have e2 := (At.boxc (i := 0) (v := .bool t) (t := 62) (b := w.heap.size + 1) (World.alloc w (.cells #[.bool s, .slice A1 n1 c1, .slice A2 n2 c2] 62)) #[.bool t, .slice B1 m1 d1, .slice B2 m2 d2] rfl (by simp)).1
  have e3 := (At.boxc (i := 1) (v := .slice B1 m1 d1) (t := 62) (b := w.heap.size + 1) (World.alloc w (.cells #[.bool s, .slice A1 n1 c1, .slice A2 n2 c2] 62)) #[.bool t, .slice B1 m1 d1, .slice B2 m2 d2] rfl (by simp)).1
  obtain ⟨d, hd⟩ : ∃ d, decide (s = t ∧ dg W q.1.natAbs = dg W q2.1.natAbs) = d := ⟨_, rfl⟩
  have C := Lib.hid (sameInt_any (s := s) (t := t) ((H1.out.below ((Below.refl _ _).alloc (Nat.le_refl _) (.cells #[.bool s, .slice A1 n1 c1, .slice A2 n2 c2] 62))).below ((Below.refl _ _).alloc (Nat.le_refl _) (.cells #[.bool t, .slice B1 m1 d1, .slice B2 m2 d2] 62))) ((H3.out.below ((Below.refl _ _).alloc (Nat.le_refl _) (.cells #[.bool s, .slice A1 n1 c1, .slice A2 n2 c2] 62))).below ((Below.refl _ _).alloc (Nat.le_refl _) (.cells #[.bool t, .slice B1 m1 d1, .slice B2 m2 d2] 62))) hn1)
  rw [hd] at C
  have HD := Lib.hid hd
  clear hd
  go_wp2_with fail
  refine (C.out).mono ?_
  rintro e w1 ⟨rfl, hb1⟩
  clear e0 e1 e2 e3 C
  cases d
  · have HF : Hid (decide (q = q2) = false) := by
      rw [show (Hid (decide (q = q2) = false)) = (decide (q = q2) = false) from rfl, decide_eq_false_iff_not, canq_eq]
      rintro ⟨h, _⟩
      have h5 := HD.out
      rw [hs.out, ht.out, decide_eq_false_iff_not] at h5
      exact h5 h
    have HB : Hid (Below w.heap.size w w1) := (bt (bt ((Below.refl _ _).alloc (Nat.le_refl _) (.cells #[.bool s, .slice A1 n1 c1, .slice A2 n2 c2] 62)) ((Below.refl _ _).alloc (Nat.le_refl _) (.cells #[.bool t, .slice B1 m1 d1, .slice B2 m2 d2] 62))) hb1)
    go_wp2
    go_ret
    exact ⟨by rw [HF.out]; rfl, HB.out⟩
  · obtain ⟨d2', hd2⟩ : ∃ d, decide (dg W q.2 = dg W q2.2) = d := ⟨_, rfl⟩
    have HF : Hid (decide (q = q2) = d2') := by
      rw [← hd2]
      show _ = _
      rw [decide_eq_decide, canq_eq]
      have h5 := HD.out
      rw [hs.out, ht.out, decide_eq_true_iff] at h5
      exact ⟨fun h => h.2, fun h => ⟨h5, h⟩⟩
    have HD2 := Lib.hid hd2
    clear hd2
    have e4 := (((At.boxc (i := 2) (v := .slice A2 n2 c2) (t := 62) (b := w.heap.size) w #[.bool s, .slice A1 n1 c1, .slice A2 n2 c2] rfl (by simp)).below ((Below.refl _ _).alloc (Nat.le_refl _) (.cells #[.bool t, .slice B1 m1 d1, .slice B2 m2 d2] 62))).below hb1).1
    have e5 := ((At.boxc (i := 2) (v := .slice B2 m2 d2) (t := 62) (b := w.heap.size + 1) (World.alloc w (.cells #[.bool s, .slice A1 n1 c1, .slice A2 n2 c2] 62)) #[.bool t, .slice B1 m1 d1, .slice B2 m2 d2] rfl (by simp)).below hb1).1
    go_wp2_with fail
    refine (same5d_any (((H2.out.below ((Below.refl _ _).alloc (Nat.le_refl _) (.cells #[.bool s, .slice A1 n1 c1, .slice A2 n2 c2] 62))).below ((Below.refl _ _).alloc (Nat.le_refl _) (.cells #[.bool t, .slice B1 m1 d1, .slice B2 m2 d2] 62))).below hb1) (((H4.out.below ((Below.refl _ _).alloc (Nat.le_refl _) (.cells #[.bool s, .slice A1 n1 c1, .slice A2 n2 c2] 62))).below ((Below.refl _ _).alloc (Nat.le_refl _) (.cells #[.bool t, .slice B1 m1 d1, .slice B2 m2 d2] 62))).below hb1) HD2.out hn2).mono ?_
    rintro e w2 ⟨rfl, hb2⟩
    have HB : Hid (Below w.heap.size w w2) := (bt (bt (bt ((Below.refl _ _).alloc (Nat.le_refl _) (.cells #[.bool s, .slice A1 n1 c1, .slice A2 n2 c2] 62)) ((Below.refl _ _).alloc (Nat.le_refl _) (.cells #[.bool t, .slice B1 m1 d1, .slice B2 m2 d2] 62))) hb1) hb2)
    clear e4 e5
    go_wp2
    go_ret
    exact ⟨by rw [HF.out]; rfl, HB.out⟩
theorem take_eq_snoc {α : Type} {l l2 : List α} {i : Nat} {x y : α} (h : l[i]? = some x) (h2 : l2[i]? = some y) (he : l.take i = l2.take i) (hxy : x = y) : l.take (i + 1) = l2.take (i + 1) := by
  rw [take_snoc h, take_snoc h2, he, hxy]
set_option maxHeartbeats 4000000 in
theorem same10_any {A A2 : Option Addr} {n c n2 c2 L L2 : Nat} {qs qs2 : List Cn} {w : World} (h : PolyC L w (.slice A n c) qs) (h' : PolyC L2 w (.slice A2 n2 c2) qs2) (hL : L ≤ 1099511627776) (hn : n ≤ 1073741824) :
    Calls Tryz.prog 32 #[.slice A n c, .slice A2 n2 c2] w (Keeps (.bool (decide (qs = qs2))) w) := by
  have H := Lib.hid h
  have H2 := Lib.hid h'
  have HN1 : Hid (n = qs.length) := by obtain ⟨_, _, _, hs, e, h1, h2, h3⟩ := h; injection e with _ e2 _; show _ = _; rw [e2]; exact h2
  have HN2 : Hid (n2 = qs2.length) := by obtain ⟨_, _, _, hs, e, h1, h2, h3⟩ := h'; injection e with _ e2 _; show _ = _; rw [e2]; exact h2
  clear h h'
  by_cases hnn : n = n2
  · subst hnn
    go_enter Tryz.func32, Tryz.ntmps32
    go_wp2
    go_loopw [5] (fun kv wr => ∃ (i : Nat), Hid (Below w.heap.size w wr ∧ qs.take i = qs2.take i) ∧ i ≤ n ∧ kv = .int .i64 (i : Int)) (fun kv _ => n - (intOf kv).toNat)
    case atStart => exact ⟨0, ⟨Below.refl _ _, by simp⟩, Nat.zero_le _, rfl⟩
    case round =>
      obtain ⟨i, hI, hi, rfl⟩ := hrel
      by_cases hlt : i < n
      · obtain ⟨b, off, s, A1, n1, c1, A3, n3, c3, q, e, hb, eq, hs, x0, x1, x2, ⟨k1, k2⟩, k3, k4⟩ := (H.out.below hI.out.1).at (i := i) (by have := HN1.out; omega)
        obtain ⟨b', off', t, B1, m1, d1, B3, m3, d3, q', e', hb', eq', hs', y0, y1, y2, ⟨l1, l2⟩, l3, l4⟩ := (H2.out.below hI.out.1).at (i := i) (by have := HN2.out; omega)
        subst e e'
        have HQ := Lib.hid eq
        have HQ' := Lib.hid eq'
        clear eq eq'
        have i1 : (0 : Int) ≤ (i : Int) := by omega
        have i2 : (i : Int) < (n : Int) := by omega
        have C := Lib.hid (same8_any (w := World.drew wr) hs hs' (k1.below (Below.refl _ _).drew) (k3.below (Below.refl _ _).drew) (l1.below (Below.refl _ _).drew) (l3.below (Below.refl _ _).drew) (by omega) (by omega))
        have Xf0 : Hid (At wr _ _) := ⟨x0, hb⟩
        have Xf1 : Hid (At wr _ _) := ⟨x1, hb⟩
        have Xf2 : Hid (At wr _ _) := ⟨x2, hb⟩
        have Xg0 : Hid (At wr _ _) := ⟨y0, hb'⟩
        have Xg1 : Hid (At wr _ _) := ⟨y1, hb'⟩
        have Xg2 : Hid (At wr _ _) := ⟨y2, hb'⟩
        clear x0 x1 x2 y0 y1 y2 k1 k2 k3 k4 l1 l2 l3 l4 hs hs'
        obtain ⟨d, hd⟩ : ∃ d, decide (q = q') = d := ⟨_, rfl⟩
        rw [hd] at C
        have HD := Lib.hid hd
        clear hd
        go_wp2_with fail
        go_wp2_with fail
        have e_f0 := Xf0.out.1
        have g_f0 := At.grow Xf0.out
        have e_f1 := Xf1.out.1
        have g_f1 := At.grow Xf1.out
        have e_f2 := Xf2.out.1
        have g_f2 := At.grow Xf2.out
        have e_g0 := Xg0.out.1
        have g_g0 := At.grow Xg0.out
        have e_g1 := Xg1.out.1
        have g_g1 := At.grow Xg1.out
        have e_g2 := Xg2.out.1
        have g_g2 := At.grow Xg2.out
        refine wp_region_grow none [(true, 0), (true, 1), (true, 2), (true, 3), (true, 4), (true, 5), (true, 6), (true, 7), (false, 8), (true, 9)] (by kernel_rfl) (by kernel_rfl) ?_
        repeat (refine ord_pas (by rfl) (fun K hK => ?_); go_simp; refine hK _ _ (fun w' hw' => (by first | (go_simp; done) | (go_simp; intro hh; cases hh))) ?_; clear hK K)
        (refine ord_call (by rfl) (fun K hK => ?_); go_simp; refine hK _ _ ?_; clear hK K)
        refine (C.out).mono ?_
        rintro e w1 ⟨rfl, hb1⟩
        refine ⟨_, rfl, Grow.of_below hb1, ?_⟩
        (refine ord_norm (fun K hK => ?_); go_simp; refine hK _ ?_; clear hK K)
        repeat (refine ord_pas (by rfl) (fun K hK => ?_); go_simp; refine hK _ _ (fun w' hw' => (by first | (go_simp; done) | (go_simp; intro hh; cases hh))) ?_; clear hK K)
        refine ord_nil ?_
        have HB := Lib.hid (bt hI.out.1 (bt (Below.refl _ _).drew hb1))
        cases d
        · have HF : Hid (decide (qs = qs2) = false) := by
            show _ = _
            rw [decide_eq_false_iff_not]
            rintro rfl
            have h5 := HQ.out.symm.trans HQ'.out
            injection h5 with h5
            have h6 := HD.out
            rw [decide_eq_false_iff_not] at h6
            exact h6 h5
          clear hI
          go_wp2
          go_ret
          exact ⟨by rw [HF.out]; rfl, HB.out⟩
        · skip
          have HN : Hid (Below w.heap.size w w1 ∧ qs.take (i + 1) = qs2.take (i + 1)) := ⟨HB.out, take_eq_snoc HQ.out HQ'.out hI.out.2 (of_decide_eq_true HD.out)⟩
          clear hI
          go_wp2
          go_roundw
          case rel => exact ⟨i + 1, HN, by omega, by go_num⟩
          case measure => simp [intOf]; omega
      · obtain rfl : i = n := by omega
        have HT : Hid (decide (qs = qs2) = true ∧ Below w.heap.size w wr) := by
          refine ⟨?_, hI.out.1⟩
          have h5 := hI.out.2
          rw [List.take_of_length_le (by have := HN1.out; omega), List.take_of_length_le (by have := HN2.out; omega)] at h5
          simp [h5]
        clear hI
        go_wp2
        go_ret
        exact ⟨by rw [HT.out.1]; rfl, HT.out.2⟩
  · have HF : Hid (decide (qs = qs2) = false) := by
      show _ = _
      rw [decide_eq_false_iff_not]
      rintro rfl
      have := HN1.out
      have := HN2.out
      omega
    have d1 : ((n : Int) == (n2 : Int)) = false := by rw [beq_eq_false_iff_ne]; omega
    have d2 : ((n : Int) != (n2 : Int)) = true := by simp [bne, d1]
    go_enter Tryz.func32, Tryz.ntmps32
    go_wp2
    go_ret
    exact ⟨by rw [HF.out]; rfl, Below.refl _ _⟩
end Go.Proofs.YtamfhmmcnlollaaGreat
namespace Go.Proofs.YtamfhmmcnlollaaGreat
open Go.RowKit
set_option linter.unusedVariables false
set_option linter.unusedSimpArgs false

/-- a binding that can be read -/
def RdB (L : Nat) (w : World) (h : Hb) (q : Bq) : Prop := h.1 = q.1 ∧ PolyC L w (shv h.2) q.2 ∧ h.2.2.1 ≤ 1073741824
def ListC (L : Nat) (w : World) (A : Option Addr) (n c : Nat) (qs : List Bq) : Prop := ∃ hs, RdK 2 w A n c (hs.flatMap hbv) ∧ All2 (RdB L w) hs qs
theorem RdB.below {L : Nat} {w w' : World} {h : Hb} {q : Bq} (H : RdB L w h q) (hb : Below w.heap.size w w') : RdB L w' h q := ⟨H.1, H.2.1.below hb, H.2.2⟩
theorem ListC.below {L n c : Nat} {w w' : World} {A : Option Addr} {qs : List Bq} (H : ListC L w A n c qs) (hb : Below w.heap.size w w') : ListC L w' A n c qs := by
  obtain ⟨hs, h1, h2⟩ := H
  exact ⟨hs, h1.below hb, h2.imp fun _ _ e => e.below hb⟩
theorem OwnB.rdb {B L : Nat} {w : World} {h : Hb} {q : Bq} (H : OwnB B L w h q) : RdB L w h q := ⟨H.1, H.2.1.c, H.2.2.2⟩
theorem ListZ.c {T : Nat → Prop} {B L n c : Nat} {w : World} {A : Option Addr} {qs : List Bq} (H : ListZ T B L w A n c qs) : ListC L w A n c qs := by
  obtain ⟨hs, h1, h2⟩ := H.old
  exact ⟨hs, h1.rd, h2.imp fun _ _ e => e.rdb⟩
theorem ListR.c {B L n c : Nat} {w : World} {A : Option Addr} {qs : List Bq} (H : ListR B L w A n c qs) : ListC L w A n c qs := by
  obtain ⟨hs, h1, h2⟩ := H
  exact ⟨hs, h1.rd, h2.imp fun _ _ e => e.rdb⟩
theorem ListC.nil {L : Nat} {w : World} : ListC L w none 0 0 [] := ⟨[], RdK.nil, All2.nil⟩
theorem ListC.len {L n c : Nat} {w : World} {A : Option Addr} {qs : List Bq} (H : ListC L w A n c qs) : n = qs.length := by
  obtain ⟨hs, h1, h2⟩ := H
  have := h1.1.1
  rw [flat2_len hbv hbv_len, h2.1] at this
  omega
theorem ListC.at {L n c i : Nat} {w : World} {A : Option Addr} {qs : List Bq} (H : ListC L w A n c qs) (hi : i < qs.length) : ∃ b off A1 n1 c1 q, A = some ⟨b, off, none⟩ ∧ qs[i]? = some q ∧ At w ⟨b, off + i * 2, none⟩ (.string q.1) ∧ At w ⟨b, off + i * 2 + 1, none⟩ (.slice A1 n1 c1) ∧ PolyC L w (.slice A1 n1 c1) q.2 ∧ n1 ≤ 1073741824 := by
  obtain ⟨hs, h1, h2⟩ := H
  obtain ⟨hd, q, e1, e2, e3⟩ := h2.at hi
  obtain ⟨b, off, e, hb, g0, g1⟩ := h1.at2 e1
  obtain ⟨t, A1, n1, c1⟩ := hd
  have h3 : t = q.1 := e3.1
  subst h3
  exact ⟨b, off, A1, n1, c1, q, e, e2, g0, g1, e3.2.1, e3.2.2⟩
set_option maxHeartbeats 4000000 in
set_option maxRecDepth 100000 in
theorem like26_yes {A A2 : Option Addr} {n c n2 c2 L L2 : Nat} {qs : List Bq} {w : World} (h : ListC L w A n c qs) (h' : ListC L2 w A2 n2 c2 qs) (hL : L ≤ 1099511627776) (hn : n ≤ 1073741824) :
    Calls Tryz.prog 21 #[.slice A n c, .slice A2 n2 c2] w (Keeps (.bool true) w) := by
  have H := Lib.hid h
  have H2 := Lib.hid h'
  have HN1 : Hid (n = qs.length) := h.len
  have HN2 := h'.len
  obtain rfl : n2 = n := by have := HN1.out; omega
  clear h h' HN2
  go_enter Tryz.func21, Tryz.ntmps21
  go_wp2
  go_loopw [13] (fun kv wr => ∃ (i : Nat), Hid (Below w.heap.size w wr) ∧ i ≤ n2 ∧ kv = .int .i64 (i : Int)) (fun kv _ => n2 - (intOf kv).toNat)
  case atStart => exact ⟨0, Below.refl _ _, Nat.zero_le _, rfl⟩
  case round =>
    obtain ⟨i, hI, hi, rfl⟩ := hrel
    by_cases hlt : i < n2
    · obtain ⟨b, off, A1, n1, c1, q, e, eq, x0, x1, p1, hn1⟩ := (H.out.below hI.out).at (i := i) (by have := HN1.out; omega)
      obtain ⟨b', off', A3, n3, c3, q', e', eq', y0, y1, p3, hn3⟩ := (H2.out.below hI.out).at (i := i) (by have := HN1.out; omega)
      subst e e'
      have hqq : q = q' := by have := eq.symm.trans eq'; injection this
      subst hqq
      have X0 := Lib.hid x0
      have X1 := Lib.hid x1
      have Y0 := Lib.hid y0
      have Y1 := Lib.hid y1
      have i1 : (0 : Int) ≤ (i : Int) := by omega
      have i2 : (i : Int) < (n2 : Int) := by omega
      have C := Lib.hid (same10_any (p1.below (Below.refl _ _).drew) (p3.below (Below.refl _ _).drew) hL hn1)
      rw [show decide (q.2 = q.2) = true by simp] at C
      clear x0 x1 y0 y1 p1 p3 eq eq'
      go_wp2_with fail
      go_wp2_with fail
      have e_f0 := X0.out.1
      have g_f0 := At.grow X0.out
      have e_f1 := X1.out.1
      have g_f1 := At.grow X1.out
      have e_g0 := Y0.out.1
      have g_g0 := At.grow Y0.out
      have e_g1 := Y1.out.1
      have g_g1 := At.grow Y1.out
      refine wp_region_grow none [(true, 0), (true, 1), (true, 2), (true, 3), (true, 4), (true, 5), (true, 6), (true, 7), (true, 8), (true, 9), (true, 10), (true, 11), (true, 12), (true, 13), (true, 14), (true, 15), (true, 16), (true, 17), (true, 18), (true, 19), (true, 20), (true, 21), (false, 22), (true, 23), (true, 24)] (by kernel_rfl) (by kernel_rfl) ?_
      repeat (refine ord_pas (by rfl) (fun K hK => ?_); go_simp; refine hK _ _ (fun w' hw' => (by first | (go_simp; done) | (go_simp; intro hh; cases hh))) ?_; clear hK K)
      (refine ord_call (by rfl) (fun K hK => ?_); go_simp; refine hK _ _ ?_; clear hK K)
      refine (C.out).mono ?_
      rintro e w1 ⟨rfl, hb1⟩
      refine ⟨_, rfl, Grow.of_below hb1, ?_⟩
      (refine ord_norm (fun K hK => ?_); go_simp; refine hK _ ?_; clear hK K)
      repeat (refine ord_pas (by rfl) (fun K hK => ?_); go_simp; refine hK _ _ (fun w' hw' => (by first | (go_simp; done) | (go_simp; intro hh; cases hh))) ?_; clear hK K)
      refine ord_nil ?_
      have HB := Lib.hid (bt hI.out (bt (Below.refl _ _).drew hb1))
      clear hI
      go_wp2
      go_roundw
      case rel => exact ⟨i + 1, HB, by omega, by go_num⟩
      case measure => simp [intOf]; omega
    · obtain rfl : i = n2 := by omega
      go_wp2
      go_ret
      exact ⟨rfl, hI.out⟩
end Go.Proofs.YtamfhmmcnlollaaGreat
namespace Go.Proofs.YtamfhmmcnlollaaGreat
open Go.RowKit
set_option linter.unusedVariables false
set_option linter.unusedSimpArgs false

section
variable {P : Program}
end
end Go.Proofs.YtamfhmmcnlollaaGreat
namespace Go.Proofs.YtamfhmmcnlollaaGreat
open Go.RowKit
set_option linter.unusedVariables false
set_option linter.unusedSimpArgs false

def EI (w : World) (L : Nat) (bs : List Bn) (i : Nat) (A' : Option Addr) (c' : Nat) (wr : World) : Prop :=
  (∃ (hs : List Hb) (zs : List Zq), RowK 2 57 w.heap.size wr A' i c' (hs.flatMap hbv) ∧ All2 (OwnZ w.heap.size L wr) hs zs ∧ zs.map (·.1) = (bs.take i).map fq ∧ DjZ zs ∧ ∀ z ∈ zs, ∀ b, z.2 b → b < wr.heap.size) ∧ Below w.heap.size w wr
theorem EI.below {w wr w' : World} {L i c' : Nat} {bs : List Bn} {A' : Option Addr} (h : EI w L bs i A' c' wr) (hb : Below wr.heap.size wr w') : EI w L bs i A' c' w' := by
  obtain ⟨⟨hs, zs, h1, h2, h3, h5, h6⟩, h4⟩ := h
  exact ⟨⟨hs, zs, h1.below hb, h2.imp fun _ _ e => e.below hb, h3, h5, fun z hz b e => Nat.lt_of_lt_of_le (h6 z hz b e) hb.size⟩, bt h4 hb⟩
theorem EI.grown {w w' : World} {L i c2 U V : Nat} {bs : List Bn} {A2 : Option Addr} {hs : List Hb} {zs : List Zq} {h : Hb} {r : Bn} (ho : RowK 2 57 w.heap.size w' A2 (i + 1) c2 (hs.flatMap hbv ++ hbv h)) (h2 : All2 (OwnZ w.heap.size L w') hs zs) (hm : zs.map (·.1) = (bs.take i).map fq) (hd : DjZ zs) (hU : ∀ z ∈ zs, ∀ b, z.2 b → b < U) (hc : OwnZ w.heap.size L w' h (fq r, fun b => U ≤ b ∧ b < V)) (hUw : U ≤ w'.heap.size) (hV : V ≤ w'.heap.size) (hr : bs[i]? = some r) (hb : Below w.heap.size w w') : EI w L bs (i + 1) A2 c2 w' := by
  refine ⟨⟨hs ++ [h], zs ++ [(fq r, fun b => U ≤ b ∧ b < V)], by simpa using ho, h2.snoc hc, ?_, hd.snoc (fun y hy k h1 h2 => by have h3 := hU y hy k h1; simp only at h2; omega), fun z hz b hb => ?_⟩, hb⟩
  · rw [take_snoc hr, List.map_append, List.map_append, hm]
    rfl
  · rcases List.mem_append.1 hz with hz | hz
    · have := hU z hz b hb; omega
    · simp at hz
      subst hz
      simp only at hb
      omega
set_option maxHeartbeats 4000000 in
theorem ecopied_any {A : Option Addr} {n c L : Nat} {bs : List Bn} {w : World} (h : ListI L w (.slice A n c) bs) (hp : ∀ b ∈ bs, ∀ r ∈ b.2, 0 < r.2.2) (hL1 : 1 ≤ L) (hL : L ≤ 268435456) (hn : n ≤ 1073741824) :
    Calls Tryz.prog 69 #[.slice A n c] w (fun e w' => ∃ A' c', e = .returned (.slice A' n c') ∧ ListO w.heap.size L w' A' n c' (bs.map fq) ∧ Below w.heap.size w w') := by
  have H := Lib.hid h
  have HNQ : Hid (n = bs.length) := h.len.1
  have HPP := Lib.hid hp
  clear h hp
  have HEL := Lib.hid elBind
  go_enter Tryz.func69, Tryz.ntmps69
  go_wp2
  go_loopw [3, 8] (fun ov kv wr => ∃ (i : Nat) (A' : Option Addr) (c' : Nat), Hid (EI w L bs i A' c' wr) ∧ i ≤ n ∧ ov = .slice A' i c' ∧ kv = .int .i64 (i : Int)) (fun _ kv _ => n - (intOf kv).toNat)
  case atStart => exact ⟨0, none, 0, ⟨⟨[], [], RowK.nil, All2.nil, by simp, List.Pairwise.nil, by simp⟩, Below.refl _ _⟩, Nat.zero_le _, rfl, rfl⟩
  case round =>
    obtain ⟨i, A', c', hI, hi, rfl, rfl⟩ := hrel
    by_cases hlt : i < n
    · obtain ⟨b, off, A1, n1, c1, r, e, hb, eq, h0, h1, h3, h4, h5⟩ := (H.out.below hI.out.2).at (i := i) (by have := HNQ.out; omega)
      have HQ := Lib.hid eq
      have HP := Lib.hid h3
      have HS := Lib.hid h4
      clear eq h3 h4
      subst e
      have i1 : (0 : Int) ≤ (i : Int) := by omega
      have i2 : (i : Int) < (n : Int) := by omega
      have x0 := h0.1
      have x1 := h1.1
      have HW0 : Hid (w.heap.size ≤ wr.heap.size) := hI.out.2.size
      have hrow : Hid (some wr.heap.size ≠ (Value.slice A' i c').ownBlock) := fun e => by
        obtain ⟨⟨hs, _, k1, _⟩, _⟩ := hI.out
        have := World.ownsRow.lt k1 _ e.symm
        omega
      have e0 : (World.alloc wr (.cells #[.string r.1, .slice A1 n1 c1] 57)).cell? ⟨wr.heap.size, 0, none⟩ = some (.string r.1) := (At.box (i := 0) _ _ rfl).1
      have e1 : (World.alloc wr (.cells #[.string r.1, .slice A1 n1 c1] 57)).cell? ⟨wr.heap.size, 1, none⟩ = some (.slice A1 n1 c1) := (At.box (i := 1) _ _ rfl).1
      have k0 := cell_gr e0 hrow.out
      have k1 := cell_gr e1 hrow.out
      go_wp2_with fail
      clear h0 h1 x0 x1
      refine wp_region_fltR (Grow (Value.slice A' i c').ownBlock) (Grow.refl _) (Grow.trans _) (fun _ _ h => h.any) [(0, 0), (0, 1), (0, 2), (0, 3), (0, 4), (3, 5), (0, 6), (3, 7), (3, 8), (0, 9)] (by kernel_rfl) (by kernel_rfl) ?_
      repeat (refine flt_pas (by rfl) (fun K hK => ?_); go_simp; refine hK _ _ (fun w' hw' => (by first | (go_simp; done) | (go_simp; intro hh; cases hh))) ?_; clear hK K)
      (refine flt_callX (by rfl) (fun K hK => ?_); go_simp; refine hK _ _ ?_; clear hK K)
      refine (eown_any (HP.out.below (belowA _ _).drew) (HPP.out r (List.mem_of_getElem? HQ.out)) hL1 hL (by omega)).mono ?_
      rintro e w1 ⟨B1, m1, d1, rfl, hpw, hm0, hb1⟩
      have hm1 : m1 ≤ 1073741824 := by omega
      clear hm0
      refine ⟨_, rfl, Grow.of_below hb1, ?_⟩
      (refine flt_norm (fun K hK => ?_); go_simp; refine hK _ ?_; clear hK K)
      repeat (refine flt_pas (by rfl) (fun K hK => ?_); go_simp; refine hK _ _ (fun w' hw' => (by first | (go_simp; done) | (go_simp; intro hh; cases hh))) ?_; clear hK K)
      clear k0 k1 e0 e1
      have HB : Hid (Below w.heap.size w w1) := bt (bt hI.out.2 (belowA _ _).drew) hb1
      have HS2 : Hid (w.heap.size ≤ (World.drew (World.alloc wr (.cells #[.string r.1, .slice A1 n1 c1] 57))).heap.size) := by
        have h2 := HW0.out
        have h3 : wr.heap.size + 1 = (World.drew (World.alloc wr (.cells #[.string r.1, .slice A1 n1 c1] 57))).heap.size := by simp
        show _ ≤ _
        omega
      have HCR : Hid (OwnZ w.heap.size L w1 (r.1, (B1, m1, d1)) (fq r, fun b => (World.drew (World.alloc wr (.cells #[.string r.1, .slice A1 n1 c1] 57))).heap.size ≤ b ∧ b < w1.heap.size)) := ⟨rfl, (hpw.cut.sub fun _ h => h.2).mono HS2.out, HS.out, hm1⟩
      obtain ⟨⟨hs', zs', p1, p2, p4, p5, p6⟩, p3⟩ := hI.out.below (belowA wr (.cells #[.string r.1, .slice A1 n1 c1] 57)).drew
      have HK := Lib.hid (p1.below hb1)
      have HK2 := Lib.hid (p2.imp fun _ _ e => e.below hb1)
      have HK3 := Lib.hid (And.intro p4 (And.intro p5 p6))
      have HSZ : Hid ((World.drew (World.alloc wr (.cells #[.string r.1, .slice A1 n1 c1] 57))).heap.size ≤ w1.heap.size) := hb1.size
      have HZ : Hid (w.heap.size ≤ w1.heap.size) := HB.out.size
      clear p1 p2 p3 p4 p5 p6 hb1 hpw
      (refine flt_actX (by rfl) (fun K hK => ?_); go_simp)
      refine hK _ _ ⟨Grow.of_below (belowA _ _), ?_⟩
      clear hK K
      (refine flt_norm (fun K hK => ?_); go_simp; refine hK _ ?_; clear hK K)
      refine flt_appK (.tmp 12) (.tmp 19) (by rfl) rfl rfl HEL.out (B := w.heap.size) (us := [.string r.1, .slice B1 m1 d1]) rfl rfl (HK.out.below (belowA _ _)) (RowK.lit (k := 2) (T := 57) (B := 0) w1 1 [.string r.1, .slice B1 m1 d1] (by simp) rfl (by omega) (Nat.zero_le _)).rd (by simp [Value.oneCell']) (by omega) (by omega) (by have := HZ.out; simp; omega) (fun w' _ h => h) (fun A4 c4 w4 ho hb4 hg4 => ?_)
      have HN : Hid (EI w L bs (i + 1) A4 c4 w4) := EI.grown (hs := hs') (h := (r.1, (B1, m1, d1))) ho (HK2.out.imp fun _ _ e => (e.below (belowA _ _)).grown (HK.out.below (belowA _ _)) hg4) HK3.out.1 HK3.out.2.1 HK3.out.2.2 ((HCR.out.below (belowA _ _)).grown (HK.out.below (belowA _ _)) hg4) (Nat.le_trans HSZ.out (Nat.le_trans (belowA w1 _).size hb4.size)) (Nat.le_trans (belowA w1 _).size hb4.size) HQ.out ((HB.out.alloc HB.out.size _).trans hb4)
      clear ho hb4 hg4
      (refine flt_norm (fun K hK => ?_); go_simp; refine hK _ ?_; clear hK K)
      repeat (refine flt_pas (by rfl) (fun K hK => ?_); go_simp; refine hK _ _ (fun w' hw' => (by first | (go_simp; done) | (go_simp; intro hh; cases hh))) ?_; clear hK K)
      refine flt_nil ?_
      go_wp2
      go_roundw
      case rel => exact ⟨i + 1, A4, c4, HN, by omega, rfl, by go_num⟩
      case measure => simp [intOf]; omega
    · obtain rfl : i = n := by omega
      obtain ⟨⟨hs, zs, k1, k2, k4, k5, k6⟩, k3⟩ := hI.out
      rw [List.take_of_length_le (by have := HNQ.out; omega)] at k4
      have HR : Hid (ListO w.heap.size L wr A' i c' (bs.map fq) ∧ Below w.heap.size w wr) := ⟨⟨hs, zs, k1, k2, k4, k5, fun _ _ _ _ => trivial, fun _ _ => trivial⟩, k3⟩
      clear k1 k2 k3 k4 k5 k6 hI
      go_wp2
      go_ret
      exact ⟨A', c', rfl, HR.out.1, HR.out.2⟩

/-- where a name stands first -/
def atn : List ByteArray → ByteArray → Nat
  | [], _ => 0
  | s :: ns, t => if s = t then 0 else atn ns t + 1
theorem nat_c0 (s : ByteArray) (ns : List ByteArray) : nat_ (s :: ns) 0 = s := rfl
theorem nat_cs (s : ByteArray) (ns : List ByteArray) (k : Nat) : nat_ (s :: ns) (k + 1) = nat_ ns k := rfl
theorem atn_uniq : ∀ (ns : List ByteArray) (t : ByteArray) (p : Nat), p ≤ ns.length → (∀ k, k < p → nat_ ns k ≠ t) → (p < ns.length → nat_ ns p = t) → atn ns t = p
  | [], t, p, h1, _, _ => by simp at h1; subst h1; rfl
  | s :: ns, t, p, h1, h2, h3 => by
    unfold atn
    cases p with
    | zero => rw [if_pos (by have := h3 (by simp); rwa [nat_c0] at this)]
    | succ p =>
      rw [if_neg (by have := h2 0 (Nat.succ_pos _); rwa [nat_c0] at this)]
      rw [atn_uniq ns t p (by simpa using h1) (fun k hk => by have := h2 (k + 1) (by omega); rwa [nat_cs] at this) (fun hk => by have := h3 (by simpa using hk); rwa [nat_cs] at this)]
def getc (bs : List Bn) (t : ByteArray) : Int := if goodl bs = true then (if nm t = 0 then (if atn (bs.map (·.1)) t < bs.length then 0 else 6) else nm t) else 3
def getq (bs : List Bn) (t : ByteArray) : List Cn := if getc bs t = 0 then pn (bnat bs (atn (bs.map (·.1)) t)).2 else []
def getp (bs : List Bn) (t : ByteArray) : Int := if getc bs t = 0 then (atn (bs.map (·.1)) t : Int) else 0
theorem getp_zero {bs : List Bn} {t : ByteArray} (h : getc bs t ≠ 0) : getp bs t = 0 := if_neg h
theorem getp_yes {bs : List Bn} {t : ByteArray} (h : getc bs t = 0) : getp bs t = (atn (bs.map (·.1)) t : Int) := if_pos h
theorem getc_bad {bs : List Bn} {t : ByteArray} (h : goodl bs = false) : getc bs t = 3 := by unfold getc; rw [if_neg (by rw [h]; decide)]
theorem getc_nm {bs : List Bn} {t : ByteArray} (h : goodl bs = true) (h2 : nm t ≠ 0) : getc bs t = nm t := by unfold getc; rw [if_pos h, if_neg h2]
theorem getc_no {bs : List Bn} {t : ByteArray} (h : goodl bs = true) (h2 : nm t = 0) (h3 : ¬ atn (bs.map (·.1)) t < bs.length) : getc bs t = 6 := by unfold getc; rw [if_pos h, if_pos h2, if_neg h3]
theorem getc_yes {bs : List Bn} {t : ByteArray} (h : goodl bs = true) (h2 : nm t = 0) (h3 : atn (bs.map (·.1)) t < bs.length) : getc bs t = 0 := by unfold getc; rw [if_pos h, if_pos h2, if_pos h3]
theorem getc_zero {bs : List Bn} {t : ByteArray} (h : getc bs t = 0) : goodl bs = true ∧ nm t = 0 ∧ atn (bs.map (·.1)) t < bs.length := by
  unfold getc at h
  split at h
  · rename_i h1
    split at h
    · rename_i h2
      split at h
      · rename_i h3; exact ⟨h1, h2, h3⟩
      · omega
    · rename_i h2; exact absurd h h2
  · omega
theorem good_at {bs : List Bn} {t : ByteArray} {j : Nat} (h : goodl bs = true) (hj : j ≤ bs.length) (h1 : ∀ k, k < j → bcmp (nat_ (bs.map (·.1)) k) t < 0) (h2 : ∀ k, j ≤ k → k < bs.length → 0 ≤ bcmp (nat_ (bs.map (·.1)) k) t) :
    (j < bs.length ∧ bcmp (nat_ (bs.map (·.1)) j) t = 0 → atn (bs.map (·.1)) t = j) ∧ (¬ (j < bs.length ∧ bcmp (nat_ (bs.map (·.1)) j) t = 0) → atn (bs.map (·.1)) t = bs.length) := by
  constructor
  · rintro ⟨a, b⟩
    exact atn_uniq _ _ _ (by rw [List.length_map]; omega) (fun k hk e => by have := h1 k hk; rw [bcmp_eq.2 e] at this; omega) (fun _ => bcmp_eq.1 b)
  · intro hn
    refine atn_uniq _ _ _ (by rw [List.length_map]; omega) (fun k hk e => ?_) (fun h3 => by rw [List.length_map] at h3; omega)
    have hz := bcmp_eq.2 e
    rcases Nat.lt_trichotomy k j with h3 | h3 | h3
    · have := h1 k h3; omega
    · subst h3; exact hn ⟨hk, hz⟩
    · have h4 := h2 j (Nat.le_refl _) (by omega)
      have h5 := goodl_lt h (i := j) (d := k - j - 1) (by omega)
      rw [show j + (k - j - 1) + 1 = k by omega, e] at h5
      omega
set_option maxHeartbeats 4000000 in
theorem place_any {L n c : Nat} {A : Option Addr} {bs : List Bn} {t : ByteArray} {w : World} (h : ListI L w (.slice A n c) bs) (hts : t.size ≤ maxLen) (hL1 : 1 ≤ L) (hL : L ≤ 268435456) (hn : n ≤ 1073741824) :
    Calls Tryz.prog 72 #[.slice A n c, .string t] w (Keeps (.tuple #[.int .i64 (getp bs t), .int .i64 (getc bs t)]) w) := by
  have H := Lib.hid h
  have HNQ : Hid (n = bs.length) := h.len.1
  have CG := Lib.hid (egood_any h hL1 hL hn)
  have CN := Lib.hid fun w' => ename_any t w' hts
  clear h hts
  rcases Bool.eq_false_or_eq_true (goodl bs) with hg | hg
  · rw [hg] at CG
    have HG := Lib.hid hg
    by_cases hz : nm t = 0
    · rw [hz] at CN
      have HZ := Lib.hid hz
      clear hz hg
      go_enter Tryz.func72, Tryz.ntmps72
      go_wp2_with fail
      refine (CG.out).mono ?_
      rintro e w1 ⟨rfl, hb1⟩
      go_wp2_with fail
      refine (CN.out _).mono ?_
      rintro e w2 ⟨rfl, rfl⟩
      go_wp2_with fail
      refine (find_any (t := t) (H.out.below hb1).nam (by omega) (fun a b h1 h2 h3 => goodl_mono HG.out t h1 (by have := HNQ.out; omega) h3)).mono ?_
      rintro e w3 ⟨j, rfl, hj, hb3⟩
      have hga := good_at HG.out (by have := hj.out.1; have := HNQ.out; omega) hj.out.2.1 (fun k h1 h2 => hj.out.2.2 k h1 (by have := HNQ.out; omega))
      have HB : Hid (Below w.heap.size w w3) := (bt hb1 hb3)
      by_cases hf : j < bs.length ∧ bcmp (nat_ (bs.map (·.1)) j) t = 0
      · have HA : Hid (atn (bs.map (·.1)) t = j) := hga.1 hf
        have HC : Hid (getc bs t = 0) := getc_yes HG.out HZ.out (by rw [HA.out]; exact hf.1)
        have HPP : Hid (getp bs t = (j : Int)) := by rw [← HA.out]; exact getp_yes HC.out
        rw [decide_eq_true (p := j < n) (by rw [HNQ.out]; exact hf.1), decide_eq_true hf.2]
        clear hf hga hj
        go_wp2
        go_ret2
        exact ⟨by rw [HC.out, HPP.out]; rfl, HB.out⟩
      · have HA : Hid (atn (bs.map (·.1)) t = bs.length) := hga.2 hf
        have HC : Hid (getc bs t = 6) := getc_no HG.out HZ.out (by rw [HA.out]; omega)
        have HPP : Hid (getp bs t = 0) := getp_zero (by rw [HC.out]; decide)
        have hd : (decide (j < n) && decide (bcmp (nat_ (bs.map (·.1)) j) t = 0)) = false := by
          rw [Bool.and_eq_false_iff, decide_eq_false_iff_not, decide_eq_false_iff_not]
          have := HNQ.out
          by_cases h1 : j < bs.length
          · exact .inr fun h2 => hf ⟨h1, h2⟩
          · exact .inl (by omega)
        rw [hd]
        clear hf hga hj hd
        go_wp2
        go_ret2
        exact ⟨by rw [HC.out, HPP.out]; rfl, HB.out⟩
    · have HC : Hid (getc bs t = nm t) := getc_nm hg hz
      have HPP : Hid (getp bs t = 0) := getp_zero (by rw [HC.out]; exact hz)
      have d1 : (nm t == 0) = false := by rw [beq_eq_false_iff_ne]; exact hz
      have d2 : (nm t != 0) = true := by simp [bne, d1]
      have HZ := Lib.hid hz
      clear hz hg
      generalize nm t = z at *
      go_enter Tryz.func72, Tryz.ntmps72
      go_wp2_with fail
      refine (CG.out).mono ?_
      rintro e w2 ⟨rfl, hb2⟩
      go_wp2_with fail
      refine (CN.out _).mono ?_
      rintro e w2 ⟨rfl, rfl⟩
      have HB : Hid (Below w.heap.size w w2) := hb2
      go_wp2
      go_ret2
      exact ⟨by rw [HC.out, HPP.out]; rfl, HB.out⟩
  · rw [hg] at CG
    have HC : Hid (getc bs t = 3) := getc_bad hg
    have HPP : Hid (getp bs t = 0) := getp_zero (by rw [HC.out]; decide)
    clear hg
    go_enter Tryz.func72, Tryz.ntmps72
    go_wp2_with fail
    refine (CG.out).mono ?_
    rintro e w3 ⟨rfl, hb3⟩
    have HB : Hid (Below w.heap.size w w3) := hb3
    go_wp2
    go_ret2
    exact ⟨by rw [HC.out, HPP.out]; rfl, HB.out⟩
def GGet (w : World) (L : Nat) (bs : List Bn) (t : ByteArray) (e : Ending) (w' : World) : Prop :=
  ∃ A n c, e = .returned (.tuple #[.slice A n c, .int .i64 (getc bs t)]) ∧ PolyO w.heap.size L w' (.slice A n c) (getq bs t) ∧ n ≤ 1073741824 ∧ Below w.heap.size w w'
theorem PolyO.nil {B L : Nat} {w : World} : PolyO B L w (.slice none 0 0) [] := ⟨none, 0, 0, [], rfl, RowK.nil, rfl, All2.nil, AptH.nil, InS.true⟩
theorem good_right {bs : List Bn} {i : Nat} (h : goodl bs = true) (hi : i < bs.length) : rightc (bnat bs i) = 0 := by
  have := (okAt_all h).1 i hi
  cases i with
  | zero => rw [okAt_zero] at this; simpa using this
  | succ k => rw [okAt_succ, Bool.and_eq_true] at this; simpa using this.1
set_option maxHeartbeats 4000000 in
theorem eget_any {L n c : Nat} {A : Option Addr} {bs : List Bn} {t : ByteArray} {w : World} (h : ListI L w (.slice A n c) bs) (hts : t.size ≤ maxLen) (hL1 : 1 ≤ L) (hL : L ≤ 268435456) (hn : n ≤ 1073741824) :
    Calls Tryz.prog 28 #[.slice A n c, .string t] w (GGet w L bs t) := by
  have H := Lib.hid h
  have HNQ : Hid (n = bs.length) := h.len.1
  have CP := Lib.hid (place_any h hts hL1 hL hn)
  clear h hts
  by_cases hz : getc bs t = 0
  · obtain ⟨hg, ht, hi⟩ := getc_zero hz
    have HGQ : Hid (getq bs t = pn (bnat bs (atn (bs.map (·.1)) t)).2) := if_pos hz
    have HC := Lib.hid hz
    have HRZ := Lib.hid (good_right hg hi)
    rw [getp_yes hz, hz] at CP
    obtain ⟨i, hei⟩ : ∃ i, i = atn (bs.map (·.1)) t := ⟨_, rfl⟩
    rw [← hei] at CP HGQ HRZ hi
    obtain ⟨r, er⟩ : ∃ r, bs[i]? = some r := ⟨_, List.getElem?_eq_getElem hi⟩
    rw [bnat_of er] at HRZ HGQ
    have HER := Lib.hid er
    have hin : i < n := by have := HNQ.out; omega
    clear hz hg ht hei er
    go_enter Tryz.func28, Tryz.ntmps28
    go_wp2_with fail
    refine (CP.out).mono ?_
    rintro e w1 ⟨rfl, hb1⟩
    obtain ⟨b, off, A1, n1, c1, r', e, hb, eq, h0, h1, h3, h4, h5⟩ := (H.out.below hb1).at (i := i) hi
    obtain rfl : r = r' := by have := HER.out.symm.trans eq; injection this
    have HP := Lib.hid h3
    subst e
    have i1 : (0 : Int) ≤ (i : Int) := by omega
    have i2 : (i : Int) < (n : Int) := by omega
    have x1 := h1.1
    clear h0 h1 h3 eq
    go_wp2_with fail
    refine (eown_any HP.out (fitc_pos (rightc_zero HRZ.out).2) hL1 hL h5).mono ?_
    rintro e w3 ⟨A', n', c', rfl, hpo, hn', hb3⟩
    have HR := Lib.hid (And.intro (hpo.mono hb1.size) (bt hb1 hb3))
    clear hpo hb3 x1
    go_wp2
    go_ret2
    exact ⟨A', n', c', by rw [HC.out]; rfl, by rw [HGQ.out]; exact HR.out.1, by omega, HR.out.2⟩
  · have HGQ : Hid (getq bs t = []) := if_neg hz
    rw [getp_zero hz] at CP
    have d1 : (getc bs t == 0) = false := by rw [beq_eq_false_iff_ne]; exact hz
    have d2 : (getc bs t != 0) = true := by simp [bne, d1]
    have HE : Hid (∃ z, z = getc bs t) := ⟨_, rfl⟩
    obtain ⟨z, hz2⟩ := HE.out
    have HZ := Lib.hid hz2
    rw [← hz2] at CP d1 d2
    clear hz hz2 HE
    go_enter Tryz.func28, Tryz.ntmps28
    go_wp2_with fail
    refine (CP.out).mono ?_
    rintro e w2 ⟨rfl, hb2⟩
    have HB : Hid (Below w.heap.size w w2) := hb2
    go_wp2
    go_ret2
    exact ⟨none, 0, 0, by rw [← HZ.out]; rfl, by rw [HGQ.out]; exact PolyO.nil, by omega, HB.out⟩
end Go.Proofs.YtamfhmmcnlollaaGreat
namespace Go.Proofs.YtamfhmmcnlollaaGreat
open Go.RowKit
set_option linter.unusedVariables false
set_option linter.unusedSimpArgs false

/-- names that rise -/
def Asc : List ByteArray → Prop
  | [] => True
  | s :: ns => (∀ t ∈ ns, bcmp s t < 0) ∧ Asc ns
theorem bcmp_self (s : ByteArray) : bcmp s s = 0 := bcmp_eq.2 rfl
theorem mem_nat {ns : List ByteArray} {t : ByteArray} (h : t ∈ ns) : ∃ k, k < ns.length ∧ nat_ ns k = t := by
  obtain ⟨k, hk, e⟩ := List.getElem_of_mem h
  exact ⟨k, hk, by unfold nat_; rw [List.getElem?_eq_getElem hk]; exact e⟩
theorem nat_mem {ns : List ByteArray} {k : Nat} (h : k < ns.length) : nat_ ns k ∈ ns := by
  unfold nat_
  rw [List.getElem?_eq_getElem h]
  exact List.getElem_mem h
theorem rises_asc : ∀ {qs : List Bq}, Rises qs ↔ Asc (qs.map (·.1))
  | [] => ⟨fun _ => trivial, fun _ i j _ h => by simp at h⟩
  | q :: qs => by
    rw [rises_cons, rises_asc (qs := qs)]
    show _ ↔ (∀ t ∈ qs.map (·.1), bcmp q.1 t < 0) ∧ Asc (qs.map (·.1))
    refine and_congr_left fun _ => ⟨fun h t ht => ?_, fun h j hj => ?_⟩
    · obtain ⟨k, hk, e⟩ := mem_nat ht
      rw [← e]
      exact h k (by simpa using hk)
    · exact h _ (nat_mem (by simpa using hj))
theorem fq_names (bs : List Bn) : (bs.map fq).map (·.1) = bs.map (·.1) := by rw [List.map_map]; rfl
theorem goodl_rises {bs : List Bn} (h : goodl bs = true) : Rises (bs.map fq) := fun i j hij hj => by
  rw [fq_names]
  rw [List.length_map] at hj
  have h5 := goodl_lt h (i := i) (d := j - i - 1) (by omega)
  rwa [show i + (j - i - 1) + 1 = j by omega] at h5
/-- the program's merge -/
def difm : List Bq → List Bq → List ByteArray
  | [], ys => ys.map (·.1)
  | x :: xs, [] => x.1 :: difm xs []
  | x :: xs, y :: ys => if bcmp x.1 y.1 < 0 then x.1 :: difm xs (y :: ys) else if bcmp y.1 x.1 < 0 then y.1 :: difm (x :: xs) ys else if x.2 = y.2 then difm xs ys else x.1 :: difm xs ys
termination_by xs ys => xs.length + ys.length
/-- putting a list over itself -/
theorem insq_self : ∀ {qs : List Bq} {b : Bq}, Asc (qs.map (·.1)) → b ∈ qs → insq qs b = qs
  | [], b, _, h => by simp at h
  | q :: qs, b, ha, h => by
    unfold insq
    rcases List.mem_cons.1 h with e | e
    · subst e
      rw [bcmp_self, if_neg (by omega), if_pos rfl]
    · rw [if_pos (ha.1 _ (List.mem_map.2 ⟨b, e, rfl⟩)), insq_self ha.2 e]
theorem insq_end : ∀ {qs : List Bq} {b : Bq}, (∀ q ∈ qs, bcmp q.1 b.1 < 0) → insq qs b = qs ++ [b]
  | [], b, _ => rfl
  | q :: qs, b, h => by
    unfold insq
    rw [if_pos (h q (by simp)), insq_end (fun x hx => h x (by simp [hx]))]
    rfl
end Go.Proofs.YtamfhmmcnlollaaGreat
namespace Go.Proofs.YtamfhmmcnlollaaGreat
open Go.RowKit
set_option linter.unusedVariables false
set_option linter.unusedSimpArgs false

def atr (ns : List ByteArray) (t : ByteArray) : Int := if atn ns t < ns.length then (atn ns t : Int) else -1
theorem atr_yes {ns : List ByteArray} {t : ByteArray} (h : atn ns t < ns.length) : atr ns t = (atn ns t : Int) := if_pos h
theorem atr_no {ns : List ByteArray} {t : ByteArray} (h : ¬ atn ns t < ns.length) : atr ns t = -1 := if_neg h
theorem NamL.ats {w : World} {A : Option Addr} {n c i : Nat} {ns : List ByteArray} (h : NamL w A n c ns) (hi : i < n) : ∃ b off A1 n1 c1, A = some ⟨b, off, none⟩ ∧ At w ⟨b, off + i * 2, none⟩ (.string (nat_ ns i)) ∧ At w ⟨b, off + i * 2 + 1, none⟩ (.slice A1 n1 c1) := by
  have hl := h.len
  obtain ⟨hs, h1, h2⟩ := h
  have hlh : hs.length = n := by rw [← hl, ← h2, List.length_map]
  have hh : hs[i]? = some (hs[i]'(by omega)) := List.getElem?_eq_getElem (by omega)
  obtain ⟨b, off, e, hb, g0, g1⟩ := h1.at2 hh
  have hn : nat_ ns i = (hs[i]'(by omega)).1 := by
    have h5 : ns[i]? = some (hs[i]'(by omega)).1 := by
      subst h2
      rw [List.getElem?_map, hh]; rfl
    unfold nat_
    rw [h5]; rfl
  exact ⟨b, off, _, _, _, e, by rw [hn]; exact g0, g1⟩
set_option maxHeartbeats 2000000 in
theorem atname_any {A : Option Addr} {n c : Nat} {ns : List ByteArray} {t : ByteArray} {w : World} (h : NamL w A n c ns) (hn : n ≤ 1073741824) :
    Calls Tryz.prog 74 #[.slice A n c, .string t] w (Keeps (.int .i64 (atr ns t)) w) := by
  have H := Lib.hid h
  have HL : Hid (ns.length = n) := h.len
  clear h
  go_enter Tryz.func74, Tryz.ntmps74
  go_wp2
  go_loopw [9] (fun kv wr => ∃ (i : Nat), Hid (Below w.heap.size w wr ∧ ∀ k, k < i → nat_ ns k ≠ t) ∧ i ≤ n ∧ kv = .int .i64 (i : Int)) (fun kv _ => n - (intOf kv).toNat)
  case atStart => exact ⟨0, ⟨Below.refl _ _, fun k hk => absurd hk (Nat.not_lt_zero k)⟩, Nat.zero_le _, rfl⟩
  case round =>
    obtain ⟨i, hI, hi, rfl⟩ := hrel
    by_cases hlt : i < n
    · obtain ⟨b, off, A1, n1, c1, e, g0, g1⟩ := (H.out.below hI.out.1).ats hlt
      subst e
      have i1 : (0 : Int) ≤ (i : Int) := by omega
      have i2 : (i : Int) < (n : Int) := by omega
      have x0 := g0.1
      have x1 := g1.1
      clear g0 g1
      obtain ⟨s, hs⟩ : ∃ s, nat_ ns i = s := ⟨_, rfl⟩
      have HS := Lib.hid hs
      rw [hs] at x0
      clear hs
      have HB : Hid (Below w.heap.size w (World.alloc wr (.cells #[.string s, .slice A1 n1 c1] 95))) := bt hI.out.1 (belowA _ _)
      by_cases he : s = t
      · have d3 : (s.toList == t.toList) = true := by rw [list_eq_b, decide_eq_true he]
        have HA : Hid (atr ns t = (i : Int)) := by
          have h1 : atn ns t = i := atn_uniq ns t i (by have := HL.out; omega) hI.out.2 (fun _ => by rw [HS.out]; exact he)
          show _ = _
          rw [atr_yes (by have := HL.out; omega), h1]
        clear he hI
        go_wp2
        go_ret
        exact ⟨by rw [HA.out]; rfl, HB.out⟩
      · have d3 : (s.toList == t.toList) = false := by rw [list_eq_b, decide_eq_false he]
        have HN : Hid (∀ k, k < i + 1 → nat_ ns k ≠ t) := fun k hk => by
          rcases Nat.lt_or_ge k i with h1 | h1
          · exact hI.out.2 k h1
          · obtain rfl : k = i := by omega
            rw [HS.out]; exact he
        clear he hI
        go_wp2
        go_roundw
        case rel => exact ⟨i + 1, ⟨HB.out, HN.out⟩, by omega, by go_num⟩
        case measure => simp [intOf]; omega
    · obtain rfl : i = n := by omega
      have HA : Hid (atr ns t = -1) := by
        have h1 : atn ns t = i := atn_uniq ns t i (by have := HL.out; omega) hI.out.2 (fun h => by have := HL.out; omega)
        exact atr_no (by have := HL.out; omega)
      go_wp2
      go_ret
      exact ⟨by rw [HA.out]; rfl, hI.out.1⟩
set_option maxHeartbeats 4000000 in
theorem rget_any {L n c : Nat} {A : Option Addr} {bs : List Bn} {t : ByteArray} {w : World} (h : ListI L w (.slice A n c) bs) (hts : t.size ≤ maxLen) (hL1 : 1 ≤ L) (hL : L ≤ 268435456) (hn : n ≤ 1073741824) :
    Calls Tryz.prog 29 #[.slice A n c, .string t] w (GGet w L bs t) := by
  have H := Lib.hid h
  have HNQ : Hid (n = bs.length) := h.len.1
  have CG := Lib.hid (rgood_any h hL1 hL hn)
  have CN := Lib.hid fun w' => rname_k t w' hts
  have CA := Lib.hid fun w' (hb : Below w.heap.size w w') => atname_any (t := t) (h.below hb).nam hn
  clear h hts
  rcases Bool.eq_false_or_eq_true (goodl bs) with hg | hg
  · rw [hg] at CG
    have HG := Lib.hid hg
    by_cases hz : nm t = 0
    · rw [hz] at CN
      have HZ := Lib.hid hz
      clear hz hg
      by_cases hf : atn (bs.map (·.1)) t < bs.length
      · obtain ⟨i, hei⟩ : ∃ i, i = atn (bs.map (·.1)) t := ⟨_, rfl⟩
        have hA : atr (bs.map (·.1)) t = (i : Int) := by rw [atr_yes (by rw [List.length_map]; exact hf), hei]
        rw [hA] at CA
        have HC : Hid (getc bs t = 0) := getc_yes HG.out HZ.out hf
        have HGQ : Hid (getq bs t = pn (bnat bs (atn (bs.map (·.1)) t)).2) := if_pos HC.out
        rw [← hei] at HGQ hf
        have HRZ := Lib.hid (good_right HG.out hf)
        obtain ⟨r, er⟩ : ∃ r, bs[i]? = some r := ⟨_, List.getElem?_eq_getElem hf⟩
        rw [bnat_of er] at HRZ HGQ
        have HER := Lib.hid er
        have hin : i < n := by have := HNQ.out; omega
        clear hei er hA
        go_enter Tryz.func29, Tryz.ntmps29
        go_wp2_with fail
        refine (CG.out).mono ?_
        rintro e w1 ⟨rfl, hb1⟩
        go_wp2_with fail
        refine (CN.out _).mono ?_
        rintro e w2 ⟨rfl, hb2⟩
        go_wp2_with fail
        refine (CA.out _ (bt hb1 hb2)).mono ?_
        rintro e w3 ⟨rfl, hb3⟩
        have HB3 := Lib.hid (bt (bt hb1 hb2) hb3)
        obtain ⟨b, off, A1, n1, c1, r', e, hb, eq, h0, h1, h3, h4, h5⟩ := (H.out.below HB3.out).at (i := i) hf
        obtain rfl : r = r' := by have := HER.out.symm.trans eq; injection this
        have HP := Lib.hid h3
        subst e
        have i1 : (0 : Int) ≤ (i : Int) := by omega
        have i2 : (i : Int) < (n : Int) := by omega
        have x1 := h1.1
        clear h0 h1 h3 eq
        go_wp2_with fail
        refine (form10_any HP.out (fitc_pos (rightc_zero HRZ.out).2) hL1 hL (by omega)).mono ?_
        rintro e w9 ⟨v, rfl, hpo, hb9⟩
        obtain ⟨A', n', c', hs0, rfl, q1, q2, q3⟩ := id hpo
        have hn' : n' ≤ 1073741824 := by rw [q2]; have h7 := HP.out.len; have h8 := pn_len r.2; omega
        have HR := Lib.hid (And.intro (hpo.mono HB3.out.size) (bt HB3.out hb9))
        clear hpo hb9 x1 q1 q2 q3
        go_wp2
        go_ret2
        exact ⟨A', n', c', by rw [HC.out]; rfl, by rw [HGQ.out]; exact HR.out.1, hn', HR.out.2⟩
      · have hA : atr (bs.map (·.1)) t = -1 := atr_no (by rw [List.length_map]; exact hf)
        rw [hA] at CA
        have HC : Hid (getc bs t = 6) := getc_no HG.out HZ.out hf
        have HGQ : Hid (getq bs t = []) := if_neg (by rw [HC.out]; decide)
        clear hA
        go_enter Tryz.func29, Tryz.ntmps29
        go_wp2_with fail
        refine (CG.out).mono ?_
        rintro e w4 ⟨rfl, hb4⟩
        go_wp2_with fail
        refine (CN.out _).mono ?_
        rintro e w5 ⟨rfl, hb5⟩
        go_wp2_with fail
        refine (CA.out _ (bt hb4 hb5)).mono ?_
        rintro e w6 ⟨rfl, hb6⟩
        have HB3 := Lib.hid (bt (bt hb4 hb5) hb6)
        go_wp2
        go_ret2
        exact ⟨none, 0, 0, by rw [HC.out]; rfl, by rw [HGQ.out]; exact PolyO.nil, by omega, HB3.out⟩
    · have HC : Hid (getc bs t = nm t) := getc_nm hg hz
      have HGQ : Hid (getq bs t = []) := if_neg (by rw [HC.out]; exact hz)
      have d1 : (nm t == 0) = false := by rw [beq_eq_false_iff_ne]; exact hz
      have d2 : (nm t != 0) = true := by simp [bne, d1]
      clear hz hg
      generalize nm t = z at *
      go_enter Tryz.func29, Tryz.ntmps29
      go_wp2_with fail
      refine (CG.out).mono ?_
      rintro e w7 ⟨rfl, hb7⟩
      go_wp2_with fail
      refine (CN.out _).mono ?_
      rintro e w8 ⟨rfl, hb8⟩
      have HB := Lib.hid (bt hb7 hb8)
      go_wp2
      go_ret2
      exact ⟨none, 0, 0, by rw [HC.out]; rfl, by rw [HGQ.out]; exact PolyO.nil, by omega, HB.out⟩
  · rw [hg] at CG
    have HC : Hid (getc bs t = 3) := getc_bad hg
    have HGQ : Hid (getq bs t = []) := if_neg (by rw [HC.out]; decide)
    clear hg
    go_enter Tryz.func29, Tryz.ntmps29
    go_wp2_with fail
    refine (CG.out).mono ?_
    rintro e w9 ⟨rfl, hb9⟩
    have HB := Lib.hid hb9
    go_wp2
    go_ret2
    exact ⟨none, 0, 0, by rw [HC.out]; rfl, by rw [HGQ.out]; exact PolyO.nil, by omega, HB.out⟩
def putc (bs : List Bn) (t : ByteArray) (rs : List Cf) : Int := if goodl bs = true then (if rightc (t, rs) = 0 then (if 64 < (insq (bs.map fq) (t, pn rs)).length then 12 else 0) else rightc (t, rs)) else 3
def putl (bs : List Bn) (t : ByteArray) (rs : List Cf) : List Bq := if putc bs t rs = 0 then insq (bs.map fq) (t, pn rs) else []
section
variable {bs : List Bn} {t : ByteArray} {rs : List Cf}
theorem putc_bad (h : goodl bs = false) : putc bs t rs = 3 := by unfold putc; rw [if_neg (by rw [h]; decide)]
theorem putc_right (h : goodl bs = true) (h2 : rightc (t, rs) ≠ 0) : putc bs t rs = rightc (t, rs) := by unfold putc; rw [if_pos h, if_neg h2]
theorem putc_many (h : goodl bs = true) (h2 : rightc (t, rs) = 0) (h3 : 64 < (insq (bs.map fq) (t, pn rs)).length) : putc bs t rs = 12 := by unfold putc; rw [if_pos h, if_pos h2, if_pos h3]
theorem putc_ok (h : goodl bs = true) (h2 : rightc (t, rs) = 0) (h3 : (insq (bs.map fq) (t, pn rs)).length ≤ 64) : putc bs t rs = 0 := by unfold putc; rw [if_pos h, if_pos h2, if_neg (by omega)]
theorem putl_no (h : putc bs t rs ≠ 0) : putl bs t rs = [] := if_neg h
theorem putl_ok (h : putc bs t rs = 0) : putl bs t rs = insq (bs.map fq) (t, pn rs) := if_pos h
end
def GEP (w : World) (L : Nat) (bs : List Bn) (t : ByteArray) (rs : List Cf) (e : Ending) (w' : World) : Prop :=
  Below w.heap.size w w' ∧ ∃ A n c, e = .returned (.tuple #[.slice A n c, .int .i64 (putc bs t rs)]) ∧ ListO w.heap.size L w' A n c (putl bs t rs)
def GRP (w : World) (L : Nat) (bs : List Bn) (t : ByteArray) (rs : List Cf) (e : Ending) (w' : World) : Prop :=
  Below w.heap.size w w' ∧ ∃ A n c, e = .returned (.tuple #[.slice A n c, .int .i64 (putc bs t rs)]) ∧ ListR w.heap.size L w' A n c (putl bs t rs)
theorem ListR.nil {B L : Nat} {w : World} : ListR B L w none 0 0 [] := ⟨[], RowK.nil, All2.nil⟩
theorem gput_out {B L n c : Nat} {w w' : World} {A : Option Addr} {qs : List Bq} {b : Bq} {e : Ending} (h : GPut B L w A n c qs b e w') (hl : n = qs.length) (hn : n ≤ 64) :
    Below B w w' ∧ (((insq qs b).length ≤ 64 ∧ ∃ A' n' c', e = .returned (.tuple #[.slice A' n' c', .int .i64 0]) ∧ ListO B L w' A' n' c' (insq qs b)) ∨ (64 < (insq qs b).length ∧ e = .returned (.tuple #[.slice none 0 0, .int .i64 12]))) := by
  obtain ⟨i, hp, hb, hc⟩ := h
  have hi := insq_pos qs b i hp.out
  refine ⟨hb, ?_⟩
  rcases hc with ⟨hf, he, hl2⟩ | ⟨hf, h64, he⟩ | ⟨hf, h64, A', c', he, hl2⟩
  · have h1 := hi.1 hf.out
    left
    rw [h1]
    exact ⟨by rw [List.length_set]; omega, A, n, c, he, hl2⟩
  · have h1 := hi.2 hf.out
    right
    refine ⟨?_, he⟩
    rw [h1]
    have := hp.out.1
    simp only [List.length_append, List.length_take, List.length_drop, List.length_singleton]
    omega
  · have h1 := hi.2 hf.out
    left
    rw [h1]
    refine ⟨?_, A', n + 1, c', he, hl2⟩
    have := hp.out.1
    simp only [List.length_append, List.length_take, List.length_drop, List.length_singleton]
    omega
set_option maxHeartbeats 4000000 in
theorem eput_any {L n c n2 c2 : Nat} {A A2 : Option Addr} {bs : List Bn} {t : ByteArray} {rs : List Cf} {w : World} (h : ListI L w (.slice A n c) bs) (h2 : PolyI L w (.slice A2 n2 c2) rs) (hts : t.size ≤ maxLen) (hL1 : 1 ≤ L) (hL : L ≤ 268435456) (hn : n ≤ 1073741824) (hn2 : n2 ≤ 1073741824) :
    Calls Tryz.prog 25 #[.slice A n c, .string t, .slice A2 n2 c2] w (GEP w L bs t rs) := by
  have H := Lib.hid h
  have H2 := Lib.hid h2
  have HNQ : Hid (n = bs.length) := h.len.1
  have HTS := Lib.hid hts
  have CG := Lib.hid (egood_any h hL1 hL hn)
  clear h h2 hts
  rcases Bool.eq_false_or_eq_true (goodl bs) with hg | hg
  · rw [hg] at CG
    have HG := Lib.hid hg
    by_cases hz : rightc (t, rs) = 0
    · have CR := Lib.hid fun w' (hb : Below w.heap.size w w') => right_any (s := t) (H2.out.below hb) HTS.out hL1 hL hn2
      rw [hz] at CR
      have HZ := Lib.hid hz
      clear hz hg
      have hn64 : n ≤ 64 := by have := (okAt_all HG.out).2; have := HNQ.out; omega
      go_enter Tryz.func25, Tryz.ntmps25
      go_wp2_with fail
      refine (CG.out).mono ?_
      rintro e w1 ⟨rfl, hb1⟩
      have x0 := (At.boxc (i := 0) (v := .string t) (t := 57) (b := w1.heap.size) w1 #[.string t, .slice A2 n2 c2] rfl (by simp)).1
      have x1 := (At.boxc (i := 1) (v := .slice A2 n2 c2) (t := 57) (b := w1.heap.size) w1 #[.string t, .slice A2 n2 c2] rfl (by simp)).1
      go_wp2_with fail
      refine (CR.out _ (bt hb1 ((Below.refl _ _).alloc (Nat.le_refl _) (.cells #[.string t, .slice A2 n2 c2] 57)))).mono ?_
      rintro e w2 ⟨rfl, hb2⟩
      clear x0 x1
      have HALL : Hid (∀ b ∈ bs, ∀ r ∈ b.2, 0 < r.2.2) := fun b hb => by
        obtain ⟨k, hk, e⟩ := List.getElem_of_mem hb
        have h1 := good_right HG.out hk
        rw [bnat_of (List.getElem?_eq_getElem hk), e] at h1
        exact fitc_pos (rightc_zero h1).2
      go_wp2_with fail
      have e_f0 := ((At.boxc (i := 0) (v := .string t) (t := 57) (b := w1.heap.size) w1 #[.string t, .slice A2 n2 c2] rfl (by simp)).below hb2).1
      have g_f0 := At.growB ((At.boxc (i := 0) (v := .string t) (t := 57) (b := w1.heap.size) w1 #[.string t, .slice A2 n2 c2] rfl (by simp)).below hb2)
      have e_f1 := ((At.boxc (i := 1) (v := .slice A2 n2 c2) (t := 57) (b := w1.heap.size) w1 #[.string t, .slice A2 n2 c2] rfl (by simp)).below hb2).1
      have g_f1 := At.growB ((At.boxc (i := 1) (v := .slice A2 n2 c2) (t := 57) (b := w1.heap.size) w1 #[.string t, .slice A2 n2 c2] rfl (by simp)).below hb2)
      refine wp_region_fltR (KB (w2).heap.size) (KB.refl _) (KB.trans _) (KB.of_grow _) [(0, 0), (0, 2), (3, 1), (3, 3), (0, 4), (0, 5), (0, 6), (0, 7)] (by kernel_rfl) (by kernel_rfl) ?_
      repeat (refine flt_pas (by rfl) (fun K hK => ?_); go_simp; refine hK _ _ (fun w' hw' => (by first | (go_simp; done) | (go_simp; intro hh; cases hh))) ?_; clear hK K)
      have HBC : Hid (w.heap.size ≤ (World.drew w2).heap.size) := (bt (bt (bt hb1 ((Below.refl _ _).alloc (Nat.le_refl _) (.cells #[.string t, .slice A2 n2 c2] 57))) hb2) (below_drewN _ 1)).size
      (refine flt_callX (by rfl) (fun K hK => ?_); go_simp; refine hK _ _ ?_; clear hK K)
      refine (ecopied_any ((((H.out.below hb1).below ((Below.refl _ _).alloc (Nat.le_refl _) (.cells #[.string t, .slice A2 n2 c2] 57))).below hb2).below (below_drewN _ 1)) HALL.out hL1 hL hn).mono ?_
      rintro e w5 ⟨A5, c5, rfl, lo5, hb5⟩
      refine ⟨_, rfl, KB.of_below hb5, ?_⟩
      (refine flt_norm (fun K hK => ?_); go_simp; refine hK _ ?_; clear hK K)
      (refine flt_callX (by rfl) (fun K hK => ?_); go_simp; refine hK _ _ ?_; clear hK K)
      refine (put_any lo5 (((((H2.out.below hb1).below ((Below.refl _ _).alloc (Nat.le_refl _) (.cells #[.string t, .slice A2 n2 c2] 57))).below hb2).below (below_drewN _ 1)).below hb5) (fitc_pos (rightc_zero HZ.out).2) HTS.out (fun i j h1 h2 h3 => rises_mono (goodl_rises HG.out) t h1 (by rw [List.length_map]; have := HNQ.out; omega) h3) hn64 hL1 hL hn2 hb5.size).mono ?_
      rintro e w6 hg6
      obtain ⟨hb6, hcase⟩ := gput_out hg6 (by rw [List.length_map]; exact HNQ.out) hn64
      have HB5 : Hid (Below w.heap.size w w5) := (bt (bt (bt (bt hb1 ((Below.refl _ _).alloc (Nat.le_refl _) (.cells #[.string t, .slice A2 n2 c2] 57))) hb2) (below_drewN _ 1)) hb5)
      have HB6 : Hid (Below w.heap.size w w6) := HB5.out.trans (hb6.mono HBC.out)
      rcases hcase with ⟨hle, A6, n6, c6, rfl, lo6⟩ | ⟨hgt, rfl⟩
      · have HC : Hid (putc bs t rs = 0) := putc_ok HG.out HZ.out hle
        have HPL : Hid (putl bs t rs = insq (bs.map fq) (t, pn rs)) := putl_ok HC.out
        have HL6 := Lib.hid (lo6.mono HBC.out)
        refine ⟨_, rfl, KB.of_le hb6 (Nat.le_refl _), ?_⟩
        (refine flt_norm (fun K hK => ?_); go_simp; refine hK _ ?_; clear hK K)
        repeat (refine flt_pas (by rfl) (fun K hK => ?_); go_simp; refine hK _ _ (fun w' hw' => (by first | (go_simp; done) | (go_simp; intro hh; cases hh))) ?_; clear hK K)
        refine flt_nil ?_
        clear g_f0 e_f0 g_f1 e_f1
        clear hb6 lo6
        go_wp2
        go_ret2
        exact ⟨HB6.out, A6, n6, c6, by rw [HC.out]; rfl, by rw [HPL.out]; exact HL6.out⟩
      · have HC : Hid (putc bs t rs = 12) := putc_many HG.out HZ.out hgt
        have HPL : Hid (putl bs t rs = []) := putl_no (by rw [HC.out]; decide)
        refine ⟨_, rfl, KB.of_le hb6 (Nat.le_refl _), ?_⟩
        (refine flt_norm (fun K hK => ?_); go_simp; refine hK _ ?_; clear hK K)
        repeat (refine flt_pas (by rfl) (fun K hK => ?_); go_simp; refine hK _ _ (fun w' hw' => (by first | (go_simp; done) | (go_simp; intro hh; cases hh))) ?_; clear hK K)
        refine flt_nil ?_
        clear g_f0 e_f0 g_f1 e_f1
        clear hb6
        go_wp2
        go_ret2
        exact ⟨HB6.out, none, 0, 0, by rw [HC.out]; rfl, by rw [HPL.out]; exact ListO.nil⟩
    · have CR := Lib.hid fun w' (hb : Below w.heap.size w w') => right_any (s := t) (H2.out.below hb) HTS.out hL1 hL hn2
      have HC : Hid (putc bs t rs = rightc (t, rs)) := putc_right hg hz
      have HPL : Hid (putl bs t rs = []) := putl_no (by rw [HC.out]; exact hz)
      have d1 : (rightc (t, rs) == 0) = false := by rw [beq_eq_false_iff_ne]; exact hz
      have d2 : (rightc (t, rs) != 0) = true := by simp [bne, d1]
      clear hz hg
      generalize rightc (t, rs) = z at *
      go_enter Tryz.func25, Tryz.ntmps25
      go_wp2_with fail
      refine (CG.out).mono ?_
      rintro e w3 ⟨rfl, hb3⟩
      have x0 := (At.boxc (i := 0) (v := .string t) (t := 57) (b := w3.heap.size) w3 #[.string t, .slice A2 n2 c2] rfl (by simp)).1
      have x1 := (At.boxc (i := 1) (v := .slice A2 n2 c2) (t := 57) (b := w3.heap.size) w3 #[.string t, .slice A2 n2 c2] rfl (by simp)).1
      go_wp2_with fail
      refine (CR.out _ (bt hb3 ((Below.refl _ _).alloc (Nat.le_refl _) (.cells #[.string t, .slice A2 n2 c2] 57)))).mono ?_
      rintro e w4 ⟨rfl, hb4⟩
      clear x0 x1
      have HB := Lib.hid (bt (bt hb3 ((Below.refl _ _).alloc (Nat.le_refl _) (.cells #[.string t, .slice A2 n2 c2] 57))) hb4)
      go_wp2
      go_ret2
      exact ⟨HB.out, none, 0, 0, by rw [HC.out]; rfl, by rw [HPL.out]; exact ListO.nil⟩
  · rw [hg] at CG
    have HC : Hid (putc bs t rs = 3) := putc_bad hg
    have HPL : Hid (putl bs t rs = []) := putl_no (by rw [HC.out]; decide)
    clear hg
    go_enter Tryz.func25, Tryz.ntmps25
    go_wp2_with fail
    refine (CG.out).mono ?_
    rintro e w5 ⟨rfl, hb5⟩
    have HB := Lib.hid hb5
    go_wp2
    go_ret2
    exact ⟨HB.out, none, 0, 0, by rw [HC.out]; rfl, by rw [HPL.out]; exact ListO.nil⟩
set_option maxHeartbeats 4000000 in
theorem rput_any {L n c n2 c2 : Nat} {A A2 : Option Addr} {bs : List Bn} {t : ByteArray} {rs : List Cf} {w : World} (h : ListI L w (.slice A n c) bs) (h2 : PolyI L w (.slice A2 n2 c2) rs) (hts : t.size ≤ maxLen) (hL1 : 1 ≤ L) (hL : L ≤ 268435456) (hn : n ≤ 1073741824) (hn2 : n2 ≤ 1073741824) :
    Calls Tryz.prog 26 #[.slice A n c, .string t, .slice A2 n2 c2] w (GRP w L bs t rs) := by
  have H := Lib.hid h
  have H2 := Lib.hid h2
  have HNQ : Hid (n = bs.length) := h.len.1
  have HTS := Lib.hid hts
  have CG := Lib.hid (rgood_any h hL1 hL hn)
  have CN := Lib.hid fun w' => rname_k t w' hts
  have CR := Lib.hid fun w' (hb : Below w.heap.size w w') => rfits_any (h2.below hb) hL1 hL hn2
  clear h h2 hts
  rcases Bool.eq_false_or_eq_true (goodl bs) with hg | hg
  · rw [hg] at CG
    have HG := Lib.hid hg
    by_cases hz : rightc (t, rs) = 0
    · rw [(rightc_zero hz).1] at CN
      rw [(rightc_zero hz).2] at CR
      have HZ := Lib.hid hz
      clear hz hg
      have hn64 : n ≤ 64 := by have := (okAt_all HG.out).2; have := HNQ.out; omega
      have HALL : Hid (∀ b ∈ bs, ∀ r ∈ b.2, 0 < r.2.2) := fun b hb => by
        obtain ⟨k, hk, e⟩ := List.getElem_of_mem hb
        have h1 := good_right HG.out hk
        rw [bnat_of (List.getElem?_eq_getElem hk), e] at h1
        exact fitc_pos (rightc_zero h1).2
      go_enter Tryz.func26, Tryz.ntmps26
      go_wp2_with fail
      refine (CG.out).mono ?_
      rintro e w1 ⟨rfl, hb1⟩
      go_wp2_with fail
      refine (CN.out _).mono ?_
      rintro e w2 ⟨rfl, hb2⟩
      go_wp2_with fail
      refine (CR.out _ (bt hb1 hb2)).mono ?_
      rintro e w3 ⟨rfl, hb3⟩
      have HBC : Hid (w.heap.size ≤ w3.heap.size) := (bt (bt hb1 hb2) hb3).size
      go_wp2_with fail
      refine (rform_any (((H.out.below hb1).below hb2).below hb3) HALL.out hL1 hL hn).mono ?_
      rintro e w5 ⟨A5, c5, rfl, lo5, hb5⟩
      go_wp2_with fail
      refine (form10_any ((((H2.out.below hb1).below hb2).below hb3).below hb5) (fitc_pos (rightc_zero HZ.out).2) hL1 hL hn2).mono ?_
      rintro e w6 ⟨v, rfl, hpo, hb6⟩
      obtain ⟨A', n', c', hs0, rfl, q1, q2, q3⟩ := id hpo
      have hn' : n' ≤ 1073741824 := by rw [q2]; have h7 := H2.out.len; have h8 := pn_len rs; omega
      have LO6 := Lib.hid (lo5.below hb6)
      have HB6 : Hid (Below w.heap.size w w6) := (bt (bt (bt (bt hb1 hb2) hb3) hb5) hb6)
      have HO6 : Hid (OwnB _ L w6 (t, (A', n', c')) (t, pn rs)) := ⟨rfl, hpo.mono hb5.size, HTS.out, hn'⟩
      have hS6 := (bt hb5 hb6).size
      clear hpo hb5 hb6 lo5 q1 q2 q3
      go_wp2_with fail
      refine (rset_any LO6.out (goodl_rises HG.out) HO6.out (by omega) hS6).mono ?_
      rintro e w7 ⟨A7, m7, c7, rfl, lo7, hb7⟩
      have HB7 : Hid (Below w.heap.size w w7) := bt HB6.out hb7
      have HL7 := Lib.hid (lo7.mono HBC.out)
      have HLN : Hid (m7 = (insq (bs.map fq) (t, pn rs)).length) := lo7.len
      clear lo7 hb7
      by_cases h64 : 64 < m7
      · have d : (64 : Int) < (m7 : Int) := by omega
        have d2 : decide ((64 : Int) < (m7 : Int)) = true := decide_eq_true d
        have HC : Hid (putc bs t rs = 12) := putc_many HG.out HZ.out (by have := HLN.out; omega)
        have HPL : Hid (putl bs t rs = []) := putl_no (by rw [HC.out]; decide)
        go_wp2
        go_ret2
        exact ⟨HB7.out, none, 0, 0, by rw [HC.out]; rfl, by rw [HPL.out]; exact ListR.nil⟩
      · have d : ¬ (64 : Int) < (m7 : Int) := by omega
        have d2 : decide ((64 : Int) < (m7 : Int)) = false := decide_eq_false d
        have HC : Hid (putc bs t rs = 0) := putc_ok HG.out HZ.out (by have := HLN.out; omega)
        have HPL : Hid (putl bs t rs = insq (bs.map fq) (t, pn rs)) := putl_ok HC.out
        go_wp2
        go_ret2
        exact ⟨HB7.out, A7, m7, c7, by rw [HC.out]; rfl, by rw [HPL.out]; exact HL7.out⟩
    · have HC : Hid (putc bs t rs = rightc (t, rs)) := putc_right hg hz
      have HPL : Hid (putl bs t rs = []) := putl_no (by rw [HC.out]; exact hz)
      rcases rightc_bad hz with hx | ⟨hx0, hx⟩
      · have hx : nm t ≠ 0 := hx
        have HC2 : Hid (putc bs t rs = nm t) := by rw [HC.out]; unfold rightc; rw [if_neg hx]; rfl
        have d1 : (nm t == 0) = false := by rw [beq_eq_false_iff_ne]; exact hx
        have d2 : (nm t != 0) = true := by simp [bne, d1]
        clear HC hz hx hg
        generalize nm t = z at CN d1 d2 HC2
        go_enter Tryz.func26, Tryz.ntmps26
        go_wp2_with fail
        refine (CG.out).mono ?_
        rintro e w4 ⟨rfl, hb4⟩
        go_wp2_with fail
        refine (CN.out _).mono ?_
        rintro e w5 ⟨rfl, hb5⟩
        have HB := Lib.hid (bt hb4 hb5)
        go_wp2
        go_ret2
        exact ⟨HB.out, none, 0, 0, by rw [HC2.out]; rfl, by rw [HPL.out]; exact ListR.nil⟩
      · have hx0 : nm t = 0 := hx0
        have hx : fitc rs ≠ 0 := hx
        have HC2 : Hid (putc bs t rs = fitc rs) := by rw [HC.out]; unfold rightc; rw [if_pos hx0]; rfl
        have d1 : (fitc rs == 0) = false := by rw [beq_eq_false_iff_ne]; exact hx
        have d2 : (fitc rs != 0) = true := by simp [bne, d1]
        rw [hx0] at CN
        clear HC hz hx hx0 hg
        generalize fitc rs = z at CR d1 d2 HC2
        go_enter Tryz.func26, Tryz.ntmps26
        go_wp2_with fail
        refine (CG.out).mono ?_
        rintro e w6 ⟨rfl, hb6⟩
        go_wp2_with fail
        refine (CN.out _).mono ?_
        rintro e w7 ⟨rfl, hb7⟩
        go_wp2_with fail
        refine (CR.out _ (bt hb6 hb7)).mono ?_
        rintro e w8 ⟨rfl, hb8⟩
        have HB := Lib.hid (bt (bt hb6 hb7) hb8)
        go_wp2
        go_ret2
        exact ⟨HB.out, none, 0, 0, by rw [HC2.out]; rfl, by rw [HPL.out]; exact ListR.nil⟩
  · rw [hg] at CG
    have HC : Hid (putc bs t rs = 3) := putc_bad hg
    have HPL : Hid (putl bs t rs = []) := putl_no (by rw [HC.out]; decide)
    clear hg
    go_enter Tryz.func26, Tryz.ntmps26
    go_wp2_with fail
    refine (CG.out).mono ?_
    rintro e w9 ⟨rfl, hb9⟩
    have HB := Lib.hid hb9
    go_wp2
    go_ret2
    exact ⟨HB.out, none, 0, 0, by rw [HC.out]; rfl, by rw [HPL.out]; exact ListR.nil⟩
end Go.Proofs.YtamfhmmcnlollaaGreat
namespace Go.Proofs.YtamfhmmcnlollaaGreat
open Go.RowKit
set_option linter.unusedVariables false
set_option linter.unusedSimpArgs false
theorem good_pos {bs : List Bn} (h : goodl bs = true) : ∀ b ∈ bs, ∀ r ∈ b.2, 0 < r.2.2 := fun b hb => by
  obtain ⟨k, hk, e⟩ := List.getElem_of_mem hb
  have h1 := good_right h hk
  rw [bnat_of (List.getElem?_eq_getElem hk), e] at h1
  exact fitc_pos (rightc_zero h1).2
section
variable {P : Program}
end
/-- the document's list: an empty literal, or a row behind B2 -/
def ListE (B B2 L : Nat) (w : World) (A : Option Addr) (n c : Nat) (qs : List Bq) : Prop := (n = 0 ∧ c = 0 ∧ (∃ a, A = some a) ∧ qs = []) ∨ ListS B B2 L w A n c qs
theorem ListE.below {B B2 L n c : Nat} {w w' : World} {A : Option Addr} {qs : List Bq} (H : ListE B B2 L w A n c qs) (hb : Below w.heap.size w w') : ListE B B2 L w' A n c qs := by
  rcases H with h | h
  · exact .inl h
  · exact .inr (h.below hb)
end Go.Proofs.YtamfhmmcnlollaaGreat
namespace Go.Proofs.YtamfhmmcnlollaaGreat
open Go.RowKit
set_option linter.unusedVariables false
set_option linter.unusedSimpArgs false

theorem putl_len (bs : List Bn) (t : ByteArray) (rs : List Cf) : (putl bs t rs).length ≤ bs.length + 1 := by
  unfold putl
  split
  · have := (insq_len (bs.map fq) (t, pn rs)).2
    rw [List.length_map] at this
    exact this
  · simp
end Go.Proofs.YtamfhmmcnlollaaGreat
