/-
  surdref05.SameInt, surdref08.Same, surdref10.Same, surdref26.Like, surdlaw26.like. surdref26.Like, surdlaw26.like, EnvGathers. slices.Delete of one binding. env.copied, place, Get, Put, Drop; surdref26.At, Get, Put, Drop. Lists of bindings, in plain Lean: where names stand, what is taken out, what is put over, what differs. surdref26.At, Get, Put, Drop; env.Put, Drop. env.Drop; surdref26.Drop; append onto an empty literal. EnvPuts, walked.
-/
import Derived.Test.YtphofjinncbaaaaEnvP
namespace Go.Proofs.Ytphofjinncbaaaa
open Go.RowKit
set_option linter.unusedVariables false
set_option linter.unusedSimpArgs false

theorem dg_injs {x y : Nat} : (dg W x = dg W y) ↔ x = y := ⟨fun h => by rw [← dg_val W_gt x, h, dg_val W_gt], fun h => by rw [h]⟩
theorem same5d_any {A A2 : Option Addr} {n c m c2 : Nat} {xs ys : List Nat} {d : Bool} {w : World} (h : Rd .u64 w A n c xs) (h' : Rd .u64 w A2 m c2 ys) (hd : decide (xs = ys) = d) (hn : n ≤ 1099511627776) :
    Calls Try.prog 103 #[.slice A n c, .slice A2 m c2] w (Keeps (.bool d) w) :=
  (same5q_any h h' hn).mono fun _ _ ⟨he, q, hq⟩ => ⟨by rw [he, hd], by rw [hq]; exact below_drewN _ _⟩
set_option maxHeartbeats 400000 in
theorem sameInt_any {A A2 : Option Addr} {n c m c2 : Nat} {xs ys : List Nat} {s t : Bool} {w : World} (h : Rd .u64 w A n c xs) (h' : Rd .u64 w A2 m c2 ys) (hn : n ≤ 1099511627776) :
    Calls Try.prog 102 #[.agg #[.bool s, .slice A n c], .agg #[.bool t, .slice A2 m c2]] w (Keeps (.bool (decide (s = t ∧ xs = ys))) w) := by
  have H := Lib.hid h
  have H' := Lib.hid h'
  clear h h'
  go_enter Try.func102, Try.ntmps102
  have e0 := ((At.boxc (i := 0) (v := .bool s) (t := 47) (b := w.heap.size) w #[.bool s, .slice A n c] rfl (by simp)).below ((Below.refl _ _).alloc (Nat.le_refl _) (.cells #[.bool t, .slice A2 m c2] 47))).1
  have e1 := ((At.boxc (i := 1) (v := .slice A n c) (t := 47) (b := w.heap.size) w #[.bool s, .slice A n c] rfl (by simp)).below ((Below.refl _ _).alloc (Nat.le_refl _) (.cells #[.bool t, .slice A2 m c2] 47))).1
  have e2 := (At.boxc (i := 0) (v := .bool t) (t := 47) (b := w.heap.size + 1) (World.alloc w (.cells #[.bool s, .slice A n c] 47)) #[.bool t, .slice A2 m c2] rfl (by simp)).1
  have e3 := (At.boxc (i := 1) (v := .slice A2 m c2) (t := 47) (b := w.heap.size + 1) (World.alloc w (.cells #[.bool s, .slice A n c] 47)) #[.bool t, .slice A2 m c2] rfl (by simp)).1
  by_cases hst : s = t
  · have q0 : (s == t) = true := by simp [hst]
    obtain ⟨d, hd⟩ : ∃ d, decide (xs = ys) = d := ⟨_, rfl⟩
    have HD : Hid (decide (s = t ∧ xs = ys) = d) := by show _ = _; rw [← hd]; simp [hst]
    have HD2 := Lib.hid hd
    clear hd hst
    go_wp2_with fail
    refine (same5d_any ((H.out.below ((Below.refl _ _).alloc (Nat.le_refl _) (.cells #[.bool s, .slice A n c] 47))).below ((Below.refl _ _).alloc (Nat.le_refl _) (.cells #[.bool t, .slice A2 m c2] 47))) ((H'.out.below ((Below.refl _ _).alloc (Nat.le_refl _) (.cells #[.bool s, .slice A n c] 47))).below ((Below.refl _ _).alloc (Nat.le_refl _) (.cells #[.bool t, .slice A2 m c2] 47))) HD2.out hn).mono ?_
    rintro e w1 ⟨rfl, hb1⟩
    have HB : Hid (Below w.heap.size w w1) := (bt (bt ((Below.refl _ _).alloc (Nat.le_refl _) (.cells #[.bool s, .slice A n c] 47)) ((Below.refl _ _).alloc (Nat.le_refl _) (.cells #[.bool t, .slice A2 m c2] 47))) hb1)
    go_wp2
    go_ret
    exact ⟨by rw [HD.out]; rfl, HB.out⟩
  · have q0 : (s == t) = false := by simp [hst]
    have HD : Hid (decide (s = t ∧ xs = ys) = false) := by show _ = _; simp [hst]
    clear hst
    have HB : Hid (Below w.heap.size w (World.alloc (World.alloc w (.cells #[.bool s, .slice A n c] 47)) (.cells #[.bool t, .slice A2 m c2] 47))) := (bt ((Below.refl _ _).alloc (Nat.le_refl _) (.cells #[.bool s, .slice A n c] 47)) ((Below.refl _ _).alloc (Nat.le_refl _) (.cells #[.bool t, .slice A2 m c2] 47)))
    go_wp2
    go_ret
    exact ⟨by rw [HD.out]; rfl, HB.out⟩
theorem canq_eq {q q2 : Cn} : q = q2 ↔ ((decide (q.1 < 0) = decide (q2.1 < 0) ∧ dg W q.1.natAbs = dg W q2.1.natAbs) ∧ dg W q.2 = dg W q2.2) := by
  rw [dg_injs, dg_injs]
  constructor
  · rintro rfl; exact ⟨⟨rfl, rfl⟩, rfl⟩
  · rintro ⟨⟨h1, h2⟩, h3⟩
    have h4 : (q.1 < 0) ↔ (q2.1 < 0) := by simpa using h1
    exact Prod.ext (by omega) h3
set_option maxHeartbeats 400000 in
theorem same8_any {A1 A2 B1 B2 : Option Addr} {n1 c1 n2 c2 m1 d1 m2 d2 : Nat} {s t : Bool} {q q2 : Cn} {w : World} (hs : Hid (s = decide (q.1 < 0))) (ht : Hid (t = decide (q2.1 < 0))) (h1 : Rd .u64 w A1 n1 c1 (dg W q.1.natAbs)) (h2 : Rd .u64 w A2 n2 c2 (dg W q.2)) (h3 : Rd .u64 w B1 m1 d1 (dg W q2.1.natAbs)) (h4 : Rd .u64 w B2 m2 d2 (dg W q2.2)) (hn1 : n1 ≤ 1099511627776) (hn2 : n2 ≤ 1099511627776) :
    Calls Try.prog 82 #[.agg #[.bool s, .slice A1 n1 c1, .slice A2 n2 c2], .agg #[.bool t, .slice B1 m1 d1, .slice B2 m2 d2]] w (Keeps (.bool (decide (q = q2))) w) := by
  have H1 := Lib.hid h1
  have H2 := Lib.hid h2
  have H3 := Lib.hid h3
  have H4 := Lib.hid h4
  clear h1 h2 h3 h4
  go_enter Try.func82, Try.ntmps82
  have e0 := ((At.boxc (i := 0) (v := .bool s) (t := 78) (b := w.heap.size) w #[.bool s, .slice A1 n1 c1, .slice A2 n2 c2] rfl (by simp)).below ((Below.refl _ _).alloc (Nat.le_refl _) (.cells #[.bool t, .slice B1 m1 d1, .slice B2 m2 d2] 78))).1
  have e1 := ((At.boxc (i := 1) (v := .slice A1 n1 c1) (t := 78) (b := w.heap.size) w #[.bool s, .slice A1 n1 c1, .slice A2 n2 c2] rfl (by simp)).below ((Below.refl _ _).alloc (Nat.le_refl _) (.cells #[.bool t, .slice B1 m1 d1, .slice B2 m2 d2] 78))).1
  have e2 := (At.boxc (i := 0) (v := .bool t) (t := 78) (b := w.heap.size + 1) (World.alloc w (.cells #[.bool s, .slice A1 n1 c1, .slice A2 n2 c2] 78)) #[.bool t, .slice B1 m1 d1, .slice B2 m2 d2] rfl (by simp)).1
  have e3 := (At.boxc (i := 1) (v := .slice B1 m1 d1) (t := 78) (b := w.heap.size + 1) (World.alloc w (.cells #[.bool s, .slice A1 n1 c1, .slice A2 n2 c2] 78)) #[.bool t, .slice B1 m1 d1, .slice B2 m2 d2] rfl (by simp)).1
  obtain ⟨d, hd⟩ : ∃ d, decide (s = t ∧ dg W q.1.natAbs = dg W q2.1.natAbs) = d := ⟨_, rfl⟩
  have C := Lib.hid (sameInt_any (s := s) (t := t) ((H1.out.below ((Below.refl _ _).alloc (Nat.le_refl _) (.cells #[.bool s, .slice A1 n1 c1, .slice A2 n2 c2] 78))).below ((Below.refl _ _).alloc (Nat.le_refl _) (.cells #[.bool t, .slice B1 m1 d1, .slice B2 m2 d2] 78))) ((H3.out.below ((Below.refl _ _).alloc (Nat.le_refl _) (.cells #[.bool s, .slice A1 n1 c1, .slice A2 n2 c2] 78))).below ((Below.refl _ _).alloc (Nat.le_refl _) (.cells #[.bool t, .slice B1 m1 d1, .slice B2 m2 d2] 78))) hn1)
  rw [hd] at C
  have HD := Lib.hid hd
  clear hd
  go_wp2_with fail
  refine (C.out).mono ?_
  rintro e w1 ⟨rfl, hb1⟩
  clear e0 e1 e2 e3 C
  cases d
  · have HF : Hid (decide (q = q2) = false) := by
      rw [show (Hid (decide (q = q2) = false)) = (decide (q = q2) = false) from rfl, decide_eq_false_iff_not, canq_eq]
      rintro ⟨h, _⟩
      have h5 := HD.out
      rw [hs.out, ht.out, decide_eq_false_iff_not] at h5
      exact h5 h
    have HB : Hid (Below w.heap.size w w1) := (bt (bt ((Below.refl _ _).alloc (Nat.le_refl _) (.cells #[.bool s, .slice A1 n1 c1, .slice A2 n2 c2] 78)) ((Below.refl _ _).alloc (Nat.le_refl _) (.cells #[.bool t, .slice B1 m1 d1, .slice B2 m2 d2] 78))) hb1)
    go_wp2
    go_ret
    exact ⟨by rw [HF.out]; rfl, HB.out⟩
  · obtain ⟨d2', hd2⟩ : ∃ d, decide (dg W q.2 = dg W q2.2) = d := ⟨_, rfl⟩
    have HF : Hid (decide (q = q2) = d2') := by
      rw [← hd2]
      show _ = _
      rw [decide_eq_decide, canq_eq]
      have h5 := HD.out
      rw [hs.out, ht.out, decide_eq_true_iff] at h5
      exact ⟨fun h => h.2, fun h => ⟨h5, h⟩⟩
    have HD2 := Lib.hid hd2
    clear hd2
    have e4 := (((At.boxc (i := 2) (v := .slice A2 n2 c2) (t := 78) (b := w.heap.size) w #[.bool s, .slice A1 n1 c1, .slice A2 n2 c2] rfl (by simp)).below ((Below.refl _ _).alloc (Nat.le_refl _) (.cells #[.bool t, .slice B1 m1 d1, .slice B2 m2 d2] 78))).below hb1).1
    have e5 := ((At.boxc (i := 2) (v := .slice B2 m2 d2) (t := 78) (b := w.heap.size + 1) (World.alloc w (.cells #[.bool s, .slice A1 n1 c1, .slice A2 n2 c2] 78)) #[.bool t, .slice B1 m1 d1, .slice B2 m2 d2] rfl (by simp)).below hb1).1
    go_wp2_with fail
    refine (same5d_any (((H2.out.below ((Below.refl _ _).alloc (Nat.le_refl _) (.cells #[.bool s, .slice A1 n1 c1, .slice A2 n2 c2] 78))).below ((Below.refl _ _).alloc (Nat.le_refl _) (.cells #[.bool t, .slice B1 m1 d1, .slice B2 m2 d2] 78))).below hb1) (((H4.out.below ((Below.refl _ _).alloc (Nat.le_refl _) (.cells #[.bool s, .slice A1 n1 c1, .slice A2 n2 c2] 78))).below ((Below.refl _ _).alloc (Nat.le_refl _) (.cells #[.bool t, .slice B1 m1 d1, .slice B2 m2 d2] 78))).below hb1) HD2.out hn2).mono ?_
    rintro e w2 ⟨rfl, hb2⟩
    have HB : Hid (Below w.heap.size w w2) := (bt (bt (bt ((Below.refl _ _).alloc (Nat.le_refl _) (.cells #[.bool s, .slice A1 n1 c1, .slice A2 n2 c2] 78)) ((Below.refl _ _).alloc (Nat.le_refl _) (.cells #[.bool t, .slice B1 m1 d1, .slice B2 m2 d2] 78))) hb1) hb2)
    clear e4 e5
    go_wp2
    go_ret
    exact ⟨by rw [HF.out]; rfl, HB.out⟩
theorem take_eq_snoc {α : Type} {l l2 : List α} {i : Nat} {x y : α} (h : l[i]? = some x) (h2 : l2[i]? = some y) (he : l.take i = l2.take i) (hxy : x = y) : l.take (i + 1) = l2.take (i + 1) := by
  rw [take_snoc h, take_snoc h2, he, hxy]
set_option maxHeartbeats 4000000 in
theorem same10_any {A A2 : Option Addr} {n c n2 c2 L L2 : Nat} {qs qs2 : List Cn} {w : World} (h : PolyC L w (.slice A n c) qs) (h' : PolyC L2 w (.slice A2 n2 c2) qs2) (hL : L ≤ 1099511627776) (hn : n ≤ 1073741824) :
    Calls Try.prog 45 #[.slice A n c, .slice A2 n2 c2] w (Keeps (.bool (decide (qs = qs2))) w) := by
  have H := Lib.hid h
  have H2 := Lib.hid h'
  have HN1 : Hid (n = qs.length) := by obtain ⟨_, _, _, hs, e, h1, h2, h3⟩ := h; injection e with _ e2 _; show _ = _; rw [e2]; exact h2
  have HN2 : Hid (n2 = qs2.length) := by obtain ⟨_, _, _, hs, e, h1, h2, h3⟩ := h'; injection e with _ e2 _; show _ = _; rw [e2]; exact h2
  clear h h'
  by_cases hnn : n = n2
  · subst hnn
    go_enter Try.func45, Try.ntmps45
    go_wp2
    go_loopw [5] (fun kv wr => ∃ (i : Nat), Hid (Below w.heap.size w wr ∧ qs.take i = qs2.take i) ∧ i ≤ n ∧ kv = .int .i64 (i : Int)) (fun kv _ => n - (intOf kv).toNat)
    case atStart => exact ⟨0, ⟨Below.refl _ _, by simp⟩, Nat.zero_le _, rfl⟩
    case round =>
      obtain ⟨i, hI, hi, rfl⟩ := hrel
      by_cases hlt : i < n
      · obtain ⟨b, off, s, A1, n1, c1, A3, n3, c3, q, e, hb, eq, hs, x0, x1, x2, ⟨k1, k2⟩, k3, k4⟩ := (H.out.below hI.out.1).at (i := i) (by have := HN1.out; omega)
        obtain ⟨b', off', t, B1, m1, d1, B3, m3, d3, q', e', hb', eq', hs', y0, y1, y2, ⟨l1, l2⟩, l3, l4⟩ := (H2.out.below hI.out.1).at (i := i) (by have := HN2.out; omega)
        subst e e'
        have HQ := Lib.hid eq
        have HQ' := Lib.hid eq'
        clear eq eq'
        have i1 : (0 : Int) ≤ (i : Int) := by omega
        have i2 : (i : Int) < (n : Int) := by omega
        have C := Lib.hid (same8_any (w := World.drew wr) hs hs' (k1.below (Below.refl _ _).drew) (k3.below (Below.refl _ _).drew) (l1.below (Below.refl _ _).drew) (l3.below (Below.refl _ _).drew) (by omega) (by omega))
        have Xf0 : Hid (At wr _ _) := ⟨x0, hb⟩
        have Xf1 : Hid (At wr _ _) := ⟨x1, hb⟩
        have Xf2 : Hid (At wr _ _) := ⟨x2, hb⟩
        have Xg0 : Hid (At wr _ _) := ⟨y0, hb'⟩
        have Xg1 : Hid (At wr _ _) := ⟨y1, hb'⟩
        have Xg2 : Hid (At wr _ _) := ⟨y2, hb'⟩
        clear x0 x1 x2 y0 y1 y2 k1 k2 k3 k4 l1 l2 l3 l4 hs hs'
        obtain ⟨d, hd⟩ : ∃ d, decide (q = q') = d := ⟨_, rfl⟩
        rw [hd] at C
        have HD := Lib.hid hd
        clear hd
        go_wp2_with fail
        go_wp2_with fail
        have e_f0 := Xf0.out.1
        have g_f0 := At.grow Xf0.out
        have e_f1 := Xf1.out.1
        have g_f1 := At.grow Xf1.out
        have e_f2 := Xf2.out.1
        have g_f2 := At.grow Xf2.out
        have e_g0 := Xg0.out.1
        have g_g0 := At.grow Xg0.out
        have e_g1 := Xg1.out.1
        have g_g1 := At.grow Xg1.out
        have e_g2 := Xg2.out.1
        have g_g2 := At.grow Xg2.out
        refine wp_region_grow none [(true, 0), (true, 1), (true, 2), (true, 3), (true, 4), (true, 5), (true, 6), (true, 7), (false, 8), (true, 9)] (by kernel_rfl) (by kernel_rfl) ?_
        repeat (refine ord_pas (by rfl) (fun K hK => ?_); go_simp; refine hK _ _ (fun w' hw' => (by first | (go_simp; done) | (go_simp; intro hh; cases hh))) ?_; clear hK K)
        (refine ord_call (by rfl) (fun K hK => ?_); go_simp; refine hK _ _ ?_; clear hK K)
        refine (C.out).mono ?_
        rintro e w1 ⟨rfl, hb1⟩
        refine ⟨_, rfl, Grow.of_below hb1, ?_⟩
        (refine ord_norm (fun K hK => ?_); go_simp; refine hK _ ?_; clear hK K)
        repeat (refine ord_pas (by rfl) (fun K hK => ?_); go_simp; refine hK _ _ (fun w' hw' => (by first | (go_simp; done) | (go_simp; intro hh; cases hh))) ?_; clear hK K)
        refine ord_nil ?_
        have HB := Lib.hid (bt hI.out.1 (bt (Below.refl _ _).drew hb1))
        cases d
        · have HF : Hid (decide (qs = qs2) = false) := by
            show _ = _
            rw [decide_eq_false_iff_not]
            rintro rfl
            have h5 := HQ.out.symm.trans HQ'.out
            injection h5 with h5
            have h6 := HD.out
            rw [decide_eq_false_iff_not] at h6
            exact h6 h5
          clear hI
          go_wp2
          go_ret
          exact ⟨by rw [HF.out]; rfl, HB.out⟩
        · skip
          have HN : Hid (Below w.heap.size w w1 ∧ qs.take (i + 1) = qs2.take (i + 1)) := ⟨HB.out, take_eq_snoc HQ.out HQ'.out hI.out.2 (of_decide_eq_true HD.out)⟩
          clear hI
          go_wp2
          go_roundw
          case rel => exact ⟨i + 1, HN, by omega, by go_num⟩
          case measure => simp [intOf]; omega
      · obtain rfl : i = n := by omega
        have HT : Hid (decide (qs = qs2) = true ∧ Below w.heap.size w wr) := by
          refine ⟨?_, hI.out.1⟩
          have h5 := hI.out.2
          rw [List.take_of_length_le (by have := HN1.out; omega), List.take_of_length_le (by have := HN2.out; omega)] at h5
          simp [h5]
        clear hI
        go_wp2
        go_ret
        exact ⟨by rw [HT.out.1]; rfl, HT.out.2⟩
  · have HF : Hid (decide (qs = qs2) = false) := by
      show _ = _
      rw [decide_eq_false_iff_not]
      rintro rfl
      have := HN1.out
      have := HN2.out
      omega
    have d1 : ((n : Int) == (n2 : Int)) = false := by rw [beq_eq_false_iff_ne]; omega
    have d2 : ((n : Int) != (n2 : Int)) = true := by simp [bne, d1]
    go_enter Try.func45, Try.ntmps45
    go_wp2
    go_ret
    exact ⟨by rw [HF.out]; rfl, Below.refl _ _⟩
end Go.Proofs.Ytphofjinncbaaaa
namespace Go.Proofs.Ytphofjinncbaaaa
open Go.RowKit
set_option linter.unusedVariables false
set_option linter.unusedSimpArgs false

/-- a binding that can be read -/
def RdB (L : Nat) (w : World) (h : Hb) (q : Bq) : Prop := h.1 = q.1 ∧ PolyC L w (shv h.2) q.2 ∧ h.2.2.1 ≤ 1073741824
def ListC (L : Nat) (w : World) (A : Option Addr) (n c : Nat) (qs : List Bq) : Prop := ∃ hs, RdK 2 w A n c (hs.flatMap hbv) ∧ All2 (RdB L w) hs qs
theorem RdB.below {L : Nat} {w w' : World} {h : Hb} {q : Bq} (H : RdB L w h q) (hb : Below w.heap.size w w') : RdB L w' h q := ⟨H.1, H.2.1.below hb, H.2.2⟩
theorem ListC.below {L n c : Nat} {w w' : World} {A : Option Addr} {qs : List Bq} (H : ListC L w A n c qs) (hb : Below w.heap.size w w') : ListC L w' A n c qs := by
  obtain ⟨hs, h1, h2⟩ := H
  exact ⟨hs, h1.below hb, h2.imp fun _ _ e => e.below hb⟩
theorem OwnB.rdb {B L : Nat} {w : World} {h : Hb} {q : Bq} (H : OwnB B L w h q) : RdB L w h q := ⟨H.1, H.2.1.c, H.2.2.2⟩
theorem ListO.c {B L n c : Nat} {w : World} {A : Option Addr} {qs : List Bq} (H : ListO B L w A n c qs) : ListC L w A n c qs := by
  obtain ⟨hs, h1, h2⟩ := H
  exact ⟨hs, h1.rd, h2.imp fun _ _ e => e.rdb⟩
theorem ListR.c {B L n c : Nat} {w : World} {A : Option Addr} {qs : List Bq} (H : ListR B L w A n c qs) : ListC L w A n c qs := by
  obtain ⟨hs, h1, h2⟩ := H
  exact ⟨hs, h1.rd, h2.imp fun _ _ e => e.rdb⟩
theorem ListC.nil {L : Nat} {w : World} : ListC L w none 0 0 [] := ⟨[], RdK.nil, All2.nil⟩
theorem ListC.len {L n c : Nat} {w : World} {A : Option Addr} {qs : List Bq} (H : ListC L w A n c qs) : n = qs.length := by
  obtain ⟨hs, h1, h2⟩ := H
  have := h1.1.1
  rw [flat2_len hbv hbv_len, h2.1] at this
  omega
theorem ListC.at {L n c i : Nat} {w : World} {A : Option Addr} {qs : List Bq} (H : ListC L w A n c qs) (hi : i < qs.length) : ∃ b off A1 n1 c1 q, A = some ⟨b, off, none⟩ ∧ qs[i]? = some q ∧ At w ⟨b, off + i * 2, none⟩ (.string q.1) ∧ At w ⟨b, off + i * 2 + 1, none⟩ (.slice A1 n1 c1) ∧ PolyC L w (.slice A1 n1 c1) q.2 ∧ n1 ≤ 1073741824 := by
  obtain ⟨hs, h1, h2⟩ := H
  obtain ⟨hd, q, e1, e2, e3⟩ := h2.at hi
  obtain ⟨b, off, e, hb, g0, g1⟩ := h1.at2 e1
  obtain ⟨t, A1, n1, c1⟩ := hd
  have h3 : t = q.1 := e3.1
  subst h3
  exact ⟨b, off, A1, n1, c1, q, e, e2, g0, g1, e3.2.1, e3.2.2⟩
set_option maxHeartbeats 4000000 in
set_option maxRecDepth 100000 in
theorem like26_yes {A A2 : Option Addr} {n c n2 c2 L L2 : Nat} {qs : List Bq} {w : World} (h : ListC L w A n c qs) (h' : ListC L2 w A2 n2 c2 qs) (hL : L ≤ 1099511627776) (hn : n ≤ 1073741824) :
    Calls Try.prog 10 #[.slice A n c, .slice A2 n2 c2] w (Keeps (.bool true) w) := by
  have H := Lib.hid h
  have H2 := Lib.hid h'
  have HN1 : Hid (n = qs.length) := h.len
  have HN2 := h'.len
  obtain rfl : n2 = n := by have := HN1.out; omega
  clear h h' HN2
  go_enter Try.func10, Try.ntmps10
  go_wp2
  go_loopw [13] (fun kv wr => ∃ (i : Nat), Hid (Below w.heap.size w wr) ∧ i ≤ n2 ∧ kv = .int .i64 (i : Int)) (fun kv _ => n2 - (intOf kv).toNat)
  case atStart => exact ⟨0, Below.refl _ _, Nat.zero_le _, rfl⟩
  case round =>
    obtain ⟨i, hI, hi, rfl⟩ := hrel
    by_cases hlt : i < n2
    · obtain ⟨b, off, A1, n1, c1, q, e, eq, x0, x1, p1, hn1⟩ := (H.out.below hI.out).at (i := i) (by have := HN1.out; omega)
      obtain ⟨b', off', A3, n3, c3, q', e', eq', y0, y1, p3, hn3⟩ := (H2.out.below hI.out).at (i := i) (by have := HN1.out; omega)
      subst e e'
      have hqq : q = q' := by have := eq.symm.trans eq'; injection this
      subst hqq
      have X0 := Lib.hid x0
      have X1 := Lib.hid x1
      have Y0 := Lib.hid y0
      have Y1 := Lib.hid y1
      have i1 : (0 : Int) ≤ (i : Int) := by omega
      have i2 : (i : Int) < (n2 : Int) := by omega
      have C := Lib.hid (same10_any (p1.below (Below.refl _ _).drew) (p3.below (Below.refl _ _).drew) hL hn1)
      rw [show decide (q.2 = q.2) = true by simp] at C
      clear x0 x1 y0 y1 p1 p3 eq eq'
      go_wp2_with fail
      go_wp2_with fail
      have e_f0 := X0.out.1
      have g_f0 := At.grow X0.out
      have e_f1 := X1.out.1
      have g_f1 := At.grow X1.out
      have e_g0 := Y0.out.1
      have g_g0 := At.grow Y0.out
      have e_g1 := Y1.out.1
      have g_g1 := At.grow Y1.out
      refine wp_region_grow none [(true, 0), (true, 1), (true, 2), (true, 3), (true, 4), (true, 5), (true, 6), (true, 7), (true, 8), (true, 9), (true, 10), (true, 11), (true, 12), (true, 13), (true, 14), (true, 15), (true, 16), (true, 17), (true, 18), (true, 19), (true, 20), (true, 21), (false, 22), (true, 23), (true, 24)] (by kernel_rfl) (by kernel_rfl) ?_
      repeat (refine ord_pas (by rfl) (fun K hK => ?_); go_simp; refine hK _ _ (fun w' hw' => (by first | (go_simp; done) | (go_simp; intro hh; cases hh))) ?_; clear hK K)
      (refine ord_call (by rfl) (fun K hK => ?_); go_simp; refine hK _ _ ?_; clear hK K)
      refine (C.out).mono ?_
      rintro e w1 ⟨rfl, hb1⟩
      refine ⟨_, rfl, Grow.of_below hb1, ?_⟩
      (refine ord_norm (fun K hK => ?_); go_simp; refine hK _ ?_; clear hK K)
      repeat (refine ord_pas (by rfl) (fun K hK => ?_); go_simp; refine hK _ _ (fun w' hw' => (by first | (go_simp; done) | (go_simp; intro hh; cases hh))) ?_; clear hK K)
      refine ord_nil ?_
      have HB := Lib.hid (bt hI.out (bt (Below.refl _ _).drew hb1))
      clear hI
      go_wp2
      go_roundw
      case rel => exact ⟨i + 1, HB, by omega, by go_num⟩
      case measure => simp [intOf]; omega
    · obtain rfl : i = n2 := by omega
      go_wp2
      go_ret
      exact ⟨rfl, hI.out⟩
theorem gofR_bad {w w' : World} {L : Nat} {bs : List Bn} {e : Ending} (h : GOfR w L bs e w') (hz : ofc bs ≠ 0) : Below w.heap.size w w' ∧ e = .returned (.tuple #[.slice none 0 0, .int .i64 (ofc bs)]) := by
  obtain ⟨hb, ⟨_, h⟩ | ⟨h, _⟩ | ⟨h, _⟩⟩ := h
  · exact ⟨hb, h⟩
  · exact absurd h.out.1 hz
  · exact absurd h.out.1 hz
theorem gofR_many {w w' : World} {L : Nat} {bs : List Bn} {e : Ending} (h : GOfR w L bs e w') (hz : ofc bs = 0 ∧ 64 < (ofq [] bs).length) : Below w.heap.size w w' ∧ e = .returned (.tuple #[.slice none 0 0, .int .i64 12]) := by
  obtain ⟨hb, ⟨h, _⟩ | ⟨_, h⟩ | ⟨h, _⟩⟩ := h
  · exact absurd hz.1 h.out
  · exact ⟨hb, h⟩
  · have := h.out; omega
theorem gofR_good {w w' : World} {L : Nat} {bs : List Bn} {e : Ending} (h : GOfR w L bs e w') (hz : ofc bs = 0 ∧ (ofq [] bs).length ≤ 64) : Below w.heap.size w w' ∧ ∃ A m c, e = .returned (.tuple #[.slice A m c, .int .i64 0]) ∧ ListR w.heap.size L w' A m c (ofq [] bs) := by
  obtain ⟨hb, ⟨h, _⟩ | ⟨h, _⟩ | ⟨_, h⟩⟩ := h
  · exact absurd hz.1 h.out
  · have := h.out; omega
  · exact ⟨hb, h⟩
end Go.Proofs.Ytphofjinncbaaaa
namespace Go.Proofs.Ytphofjinncbaaaa
open Go.RowKit
set_option linter.unusedVariables false
set_option linter.unusedSimpArgs false

section
variable {P : Program}
/-- append in place of elements of k cells, a row that is known whole -/
theorem run_app_rowK (w : World) (t ty elem : TypeId) (g o sLen sCap : Nat) (a : Addr) (m c k : Nat) (cur : Array Value) (t' : TypeId) (cs : List Value)
    (hu : P.underlying t = some (.slice elem)) (hs : (P.info? elem).map (·.size) = some k)
    (hg : w.heap[g]? = some (.cells cur t' (0, 0))) (hn : cs.length = m * k) (hroom : sLen + m ≤ sCap)
    (hsrc : ∀ j v, cs[j]? = some v → w.cell? (a.add j) = some v) (hfit : o + sLen * k + cs.length ≤ cur.size) (h1 : ∀ v ∈ cs, v.oneCell' = true) :
    (Builtin.append_ #[t, t] ty #[.slice (some ⟨g, o, none⟩) sLen sCap, .slice (some a) m c]).run P w =
      .ok (.slice (some ⟨g, o, none⟩) (sLen + m) sCap) (w.setRow g (cur.toList.take (o + sLen * k) ++ cs ++ cur.toList.drop (o + sLen * k + cs.length)).toArray) := by
  have hst := run_storeCells_at P g (o + sLen * k) t' cs 0 cur w hg (by simpa using hfit) h1
  cases hq : P.info? elem with
  | none => simp [hq] at hs
  | some i =>
    have hi : i.size = k := by simpa [hq] using hs
    have hfc := run_firstCells_some (P := P) w i.size m a m c cs (by rw [hi]; exact hn) hsrc
    simp only [Nat.add_zero] at hst
    subst hi
    simp [Builtin.append_, run_underlying hu, sizeOf, typeInfo, hq, Builtin.lenOf, hroom, hfc, Addr.add_lit, hst]
theorem run_clear_rowK {T TT : TypeId} {z : Value} {k bytes : Nat} (w : World) (ty : TypeId) (g o n c : Nat) (cur : Array Value) (t' : TypeId) (zs : List Value) (he : ElemK P TT T z k bytes) (hz : (Builtin.zeroCells z.cells (n + 1)).toList = zs)
    (hg : w.heap[g]? = some (.cells cur t' (0, 0))) (hfit : o + zs.length ≤ cur.size) (h1 : ∀ v ∈ zs, v.oneCell' = true) :
    (Builtin.clear_ #[TT] ty #[.slice (some ⟨g, o, none⟩) (n + 1) c]).run P w = .ok (.tuple #[]) (w.setRow g (cur.toList.take o ++ zs ++ cur.toList.drop (o + zs.length)).toArray) := by
  obtain ⟨⟨hT, hinfo⟩, hzs, hk, hby⟩ := he
  obtain ⟨i, hi, hz0, hs, hb⟩ := info_parts hinfo
  have hst := run_storeCells_at P g o t' zs 0 cur w hg (by simpa using hfit) h1
  simp only [Nat.add_zero] at hst
  simp [Builtin.clear_, run_underlying hT, zeroValue, typeInfo, hi, hz0, hz, hst]
theorem flt_apK {R R1 : World → World → Prop} {G : Nat → Value → World → Prop} {l : List Oper} {Q : Exit → Act → World → Prop} {i : Nat} {o : Oper} {rest : List (Nat × Nat)} {a : Act} {w : World} (ho' : opAt l i = some o) (hgd : o.guard = none) (d s : Operand) (t t' : TypeId)
    (ho : o.op = .call { callee := .builtin .append, args := #[d, s], argTypes := #[t, t'] }) (v u : Value) (hd : a.eval d = v) (hs : a.eval s = u) {v' : Value} {w' : World}
    (hr : (Builtin.append_ #[t, t'] o.type #[v, u]).run P w = .ok v' w') (hR : R w w') (h : wpF P l.toArray Q R R1 rest G (a.put o.dst v') w') : wpF P l.toArray Q R R1 ((3, i) :: rest) G a w := by
  refine flt_actX ho' fun K hK => ?_
  rw [if_pos (by simp [Region.wanted, hgd])]
  unfold Oper.wp execOp
  simp only [ho, resolve, invoke, builtin, Sem.run_bind, Sem.run_pure, Result.andThen_ok, List.map_toArray, List.map_cons, List.map_nil, hd, hs, hr]
  exact hK _ _ ⟨hR, h⟩
end
theorem del_list {vs c0 c1 c2 zs : List Value} {i n : Nat} (h : c0.take (n * 2) = vs) (hv : vs.length = n * 2) (hi : i < n) (hz : zs.length = 2)
    (e1 : c1 = c0.take (0 + i * 2) ++ vs.drop ((i + 1) * 2) ++ c0.drop (0 + i * 2 + (vs.drop ((i + 1) * 2)).length)) (e2 : c2 = c1.take ((n - 1) * 2) ++ zs ++ c1.drop ((n - 1) * 2 + zs.length)) :
    c2.take ((n - 1) * 2) = vs.take (i * 2) ++ vs.drop ((i + 1) * 2) ∧ (n * 2 ≤ c0.length → c2.length = c0.length) := by
  have hc : vs.length ≤ c0.length := by rw [← h, List.length_take]; omega
  have h1 : c0.take (0 + i * 2) = vs.take (i * 2) := by rw [← h, List.take_take]; congr 1; omega
  have h2 : (vs.take (i * 2) ++ vs.drop ((i + 1) * 2)).length = (n - 1) * 2 := by simp; omega
  have h3 : c1.length = c0.length := by
    rw [e1]
    simp only [List.length_append, List.length_take, List.length_drop]
    omega
  have h4 : c1.take ((n - 1) * 2) = vs.take (i * 2) ++ vs.drop ((i + 1) * 2) := by
    rw [e1, h1, ← h2, List.take_left]
  constructor
  · rw [e2, List.append_assoc, List.take_append_of_le_length (by rw [List.length_take]; omega), List.take_take, Nat.min_self, h4]
  · intro h5
    rw [e2]
    simp only [List.length_append, List.length_take, List.length_drop]
    omega
set_option maxHeartbeats 4000000 in
set_option maxRecDepth 100000 in
theorem del_any {B n c i g : Nat} {vs : List Value} {w : World} (h : RowK 2 80 B w (some ⟨g, 0, none⟩) n c vs) (hv1 : ∀ u ∈ vs, u.oneCell' = true) (hi : i < n) (hn : n ≤ 64) :
    Calls Try.prog 49 #[.slice (some ⟨g, 0, none⟩) n c, .int .i64 (i : Int), .int .i64 ((i : Int) + 1)] w (fun e w' => e = .returned (.slice (some ⟨g, 0, none⟩) (n - 1) c) ∧ RowK 2 80 B w' (some ⟨g, 0, none⟩) (n - 1) c (vs.take (i * 2) ++ vs.drop ((i + 1) * 2)) ∧ w.grownBy w' (some g)) := by
  obtain ⟨hvl, hr⟩ := id h
  rcases hr with ⟨hnil, _⟩ | ⟨g', cap, cur, hv, hgB, hh, hnc, hcm, hcs, htk⟩
  · cases hnil
  injection hv with e1 _ e3
  injection e1 with e1
  injection e1 with e1
  subst e1 e3
  have hc2 : c ≤ 9223372036854775807 := by unfold maxLen at hcm; omega
  have i1 : (0 : Int) ≤ (i : Int) := by omega
  have i2 : (i : Int) ≤ (n : Int) := by omega
  have i3 : ((i : Int) == (i : Int) + 1) = false := by rw [beq_eq_false_iff_ne]; omega
  have i4 : ¬ ((i : Int) = (i : Int) + 1) := by omega
  have i5 : (i : Int) + 1 ≤ (n : Int) := by omega
  have i6 : (n : Int) ≤ (c : Int) := by omega
  have i7 : (i : Int) ≤ (i : Int) + 1 := by omega
  have i8 : (0 : Int) ≤ (i : Int) + 1 := by omega
  have i9 : (i : Int) ≤ (c : Int) := by omega
  have w3 : ((i : Int) + 1).toNat = i + 1 := by omega
  have HCM := Lib.hid hcm
  have H := Lib.hid h
  have HKS : (Try.prog.info? 80).map (·.size) = some 2 := by
    obtain ⟨i0, hi0, h0, h1, h2⟩ := info_parts elBind.1.2
    rw [hi0]; simp [h1]
  have HKS := Lib.hid HKS
  clear hcm
  obtain ⟨A, hA, hsrc⟩ : ∃ A : Addr, (if c = i + 1 then some (⟨g, 0, none⟩ : Addr) else some ⟨g, (i + 1) * 2, none⟩) = some A ∧ Hid (∀ t u, (vs.drop ((i + 1) * 2))[t]? = some u → w.drew.cell? (A.add t) = some u) := by
    by_cases hci : c = i + 1
    · refine ⟨_, if_pos hci, fun t u hu => ?_⟩
      rw [List.drop_of_length_le (by rw [hvl]; omega)] at hu
      simp at hu
    · refine ⟨_, if_neg hci, fun t u hu => ?_⟩
      rw [addo]
      rw [List.getElem?_drop] at hu
      have hlt := (List.getElem?_eq_some_iff.1 hu).1
      have := H.out.cell (i := (i + 1) * 2 + t) (by omega)
      rw [hu] at this
      exact this
  have hdl : (vs.drop ((i + 1) * 2)).length = (n - (i + 1)) * 2 := by rw [List.length_drop, hvl]; omega
  obtain ⟨cur1, e1⟩ : ∃ cur1, cur1 = (cur.toList.take (0 + i * 2) ++ vs.drop ((i + 1) * 2) ++ cur.toList.drop (0 + i * 2 + (vs.drop ((i + 1) * 2)).length)).toArray := ⟨_, rfl⟩
  have hr1 : ∀ ty c1, (Builtin.append_ #[22, 22] ty #[.slice (some ⟨g, 0, none⟩) i c, .slice (some A) (n - (i + 1)) c1]).run Try.prog w.drew = .ok (.slice (some ⟨g, 0, none⟩) (i + (n - (i + 1))) c) (w.drew.setRow g cur1) := fun ty c1 => by
    rw [e1]
    exact run_app_rowK w.drew _ ty 80 g 0 i c A (n - (i + 1)) c1 2 cur 80 (vs.drop ((i + 1) * 2)) Try.underlying22 HKS.out hh hdl (by omega) hsrc.out (by rw [hdl, hcs]; omega) (fun v hv => hv1 v (List.mem_of_mem_drop hv))
  have hs1 : cur1.size = c * 2 := by
    rw [e1]
    simp only [List.size_toArray, List.length_append, List.length_take, List.length_drop, Array.length_toList, hcs, hvl]
    omega
  have hg1 : (w.drew.setRow g cur1).heap[g]? = some (.cells cur1 80 (0, 0)) := setRow_heap w.drew g cur cur1 _ _ hh
  have hgr1 : w.grownBy (w.drew.setRow g cur1) (some g) := ⟨rfl, rfl, rfl, by simp, fun k _ hk => setRow_other w.drew g k cur1 (fun e => hk (by rw [e]))⟩
  have hgr1' : Grow (some g) w.drew (w.drew.setRow g cur1) := ⟨rfl, rfl, rfl, by simp, fun k _ hk => setRow_other w.drew g k cur1 (fun e => hk (by rw [e]))⟩
  obtain ⟨W1, hW1⟩ : ∃ W1, W1 = w.drew.setRow g cur1 := ⟨_, rfl⟩
  rw [← hW1] at hr1 hg1 hgr1 hgr1'
  clear hW1
  obtain ⟨zs, hzs⟩ : ∃ zs, (Builtin.zeroCells (Value.agg #[.string ByteArray.empty, .slice none 0 0]).cells (0 + 1)).toList = zs := ⟨_, rfl⟩
  have hzs2 : zs = [.string ByteArray.empty, .slice none 0 0] := by rw [← hzs]; kernel_rfl
  have hzl : zs.length = 2 := by rw [hzs2]; rfl
  obtain ⟨cur2, e2⟩ : ∃ cur2, cur2 = (cur1.toList.take ((n - 1) * 2) ++ zs ++ cur1.toList.drop ((n - 1) * 2 + zs.length)).toArray := ⟨_, rfl⟩
  have hr2 : ∀ ty c1, (Builtin.clear_ #[22] ty #[.slice (some ⟨g, (n - 1) * 2, none⟩) (0 + 1) c1]).run Try.prog W1 = .ok (.tuple #[]) (W1.setRow g cur2) := fun ty c1 => by
    rw [e2]
    exact run_clear_rowK W1 ty g ((n - 1) * 2) 0 c1 cur1 80 zs elBind hzs hg1 (by rw [hzl, hs1]; omega) (by rw [hzs2]; intro v hv; simp at hv; rcases hv with rfl | rfl <;> rfl)
  have hdel := del_list (zs := zs) (c1 := cur1.toList) (c2 := cur2.toList) htk hvl hi hzl (by rw [e1]) (by rw [e2])
  have hs2 : cur2.size = c * 2 := by
    have := hdel.2 (by rw [Array.length_toList, hcs]; omega)
    rw [Array.length_toList, Array.length_toList] at this
    omega
  have HR : Hid (RowK 2 80 B (W1.setRow g cur2) (some ⟨g, 0, none⟩) (n - 1) c (vs.take (i * 2) ++ vs.drop ((i + 1) * 2)) ∧ w.grownBy (W1.setRow g cur2) (some g)) := by
    refine ⟨⟨?_, .inr ⟨g, c, cur2, rfl, hgB, setRow_heap W1 g cur1 cur2 _ _ hg1, by omega, HCM.out, hs2, hdel.1⟩⟩, ?_⟩
    · simp only [List.length_append, List.length_take, List.length_drop, hvl]; omega
    · exact World.grownBy.trans hgr1 ⟨rfl, rfl, rfl, by simp, fun k _ hk => setRow_other W1 g k cur2 (fun e => hk (by rw [e]))⟩
  have HR1 := Lib.hid hr1
  have HR2 := Lib.hid hr2
  have HG1 := Lib.hid hgr1'
  have hnn : i + (n - (i + 1)) = n - 1 := by omega
  rw [hnn] at HR1
  have hcn : ¬ (c = n - 1) := by omega
  have n1 : (((n - 1 : Nat) : Int)) ≤ (n : Int) := by omega
  have n2 : n - (n - 1) = 0 + 1 := by omega
  clear hr1 hr2 hgr1 hgr1' hg1 hs1 hs2 e1 e2 hvl hcs hdl hh htk hv1 h hdel hzs hzs2 hzl hnn
  go_enter Try.func49, Try.ntmps49
  go_wp2_with fail
  refine wp_region_fltR (Grow (some g)) (Grow.refl _) (Grow.trans _) (fun _ _ h => h.any) [(0, 0), (0, 1), (0, 2), (0, 3), (0, 4), (0, 5), (3, 6), (0, 7)] (by kernel_rfl) (by kernel_rfl) ?_
  repeat (refine flt_pas (by rfl) (fun K hK => ?_); go_simp; refine hK _ _ (fun w' hw' => (by first | (go_simp; done) | (go_simp; intro hh; cases hh))) ?_; clear hK K)
  refine flt_apK (by rfl) rfl (.tmp 22) (.tmp 25) _ _ rfl _ _ rfl rfl (HR1.out _ _) HG1.out ?_
  (refine flt_norm (fun K hK => ?_); go_simp; refine hK _ ?_; clear hK K)
  repeat (refine flt_pas (by rfl) (fun K hK => ?_); go_simp; refine hK _ _ (fun w' hw' => (by first | (go_simp; done) | (go_simp; intro hh; cases hh))) ?_; clear hK K)
  refine flt_nil ?_
  go_wp2_with fail
  rw [HR2.out]
  simp only [Result.andThen]
  rw [Oper.upon_value]
  go_wp2
  go_ret
  exact ⟨rfl, HR.out.1, HR.out.2⟩
end Go.Proofs.Ytphofjinncbaaaa
namespace Go.Proofs.Ytphofjinncbaaaa
open Go.RowKit
set_option linter.unusedVariables false
set_option linter.unusedSimpArgs false

def EI (w : World) (L : Nat) (bs : List Bn) (i : Nat) (A' : Option Addr) (c' : Nat) (wr : World) : Prop :=
  (∃ hs : List Hb, RowK 2 80 w.heap.size wr A' i c' (hs.flatMap hbv) ∧ All2 (OwnB w.heap.size L wr) hs ((bs.take i).map fq)) ∧ Below w.heap.size w wr
theorem EI.below {w wr w' : World} {L i c' : Nat} {bs : List Bn} {A' : Option Addr} (h : EI w L bs i A' c' wr) (hb : Below wr.heap.size wr w') : EI w L bs i A' c' w' := by
  obtain ⟨⟨hs, h1, h2⟩, h4⟩ := h
  exact ⟨⟨hs, h1.below hb, h2.imp fun _ _ e => e.below hb⟩, bt h4 hb⟩
theorem EI.grown {w w' : World} {L i c2 : Nat} {bs : List Bn} {A2 : Option Addr} {hs : List Hb} {h : Hb} {r : Bn} (ho : RowK 2 80 w.heap.size w' A2 (i + 1) c2 (hs.flatMap hbv ++ hbv h)) (h2 : All2 (OwnB w.heap.size L w') hs ((bs.take i).map fq)) (hc : OwnB w.heap.size L w' h (fq r)) (hr : bs[i]? = some r) (hb : Below w.heap.size w w') : EI w L bs (i + 1) A2 c2 w' := by
  refine ⟨⟨hs ++ [h], by simpa using ho, ?_⟩, hb⟩
  rw [take_snoc hr, List.map_append]
  exact h2.snoc hc
set_option maxHeartbeats 4000000 in
theorem ecopied_any {A : Option Addr} {n c L : Nat} {bs : List Bn} {w : World} (h : ListI L w (.slice A n c) bs) (hp : ∀ b ∈ bs, ∀ r ∈ b.2, 0 < r.2.2) (hL1 : 1 ≤ L) (hL : L ≤ 268435456) (hn : n ≤ 1073741824) :
    Calls Try.prog 44 #[.slice A n c] w (fun e w' => ∃ A' c', e = .returned (.slice A' n c') ∧ ListO w.heap.size L w' A' n c' (bs.map fq) ∧ Below w.heap.size w w') := by
  have H := Lib.hid h
  have HNQ : Hid (n = bs.length) := h.len.1
  have HPP := Lib.hid hp
  clear h hp
  have HEL := Lib.hid elBind
  go_enter Try.func44, Try.ntmps44
  go_wp2
  go_loopw [3, 8] (fun ov kv wr => ∃ (i : Nat) (A' : Option Addr) (c' : Nat), Hid (EI w L bs i A' c' wr) ∧ i ≤ n ∧ ov = .slice A' i c' ∧ kv = .int .i64 (i : Int)) (fun _ kv _ => n - (intOf kv).toNat)
  case atStart => exact ⟨0, none, 0, ⟨⟨[], RowK.nil, by simpa using All2.nil⟩, Below.refl _ _⟩, Nat.zero_le _, rfl, rfl⟩
  case round =>
    obtain ⟨i, A', c', hI, hi, rfl, rfl⟩ := hrel
    by_cases hlt : i < n
    · obtain ⟨b, off, A1, n1, c1, r, e, hb, eq, h0, h1, h3, h4, h5⟩ := (H.out.below hI.out.2).at (i := i) (by have := HNQ.out; omega)
      have HQ := Lib.hid eq
      have HP := Lib.hid h3
      have HS := Lib.hid h4
      clear eq h3 h4
      subst e
      have i1 : (0 : Int) ≤ (i : Int) := by omega
      have i2 : (i : Int) < (n : Int) := by omega
      have x0 := h0.1
      have x1 := h1.1
      have HW0 : Hid (w.heap.size ≤ wr.heap.size) := hI.out.2.size
      have hrow : Hid (some wr.heap.size ≠ (Value.slice A' i c').ownBlock) := fun e => by
        obtain ⟨⟨hs, k1, _⟩, _⟩ := hI.out
        have := World.ownsRow.lt k1 _ e.symm
        omega
      have e0 : (World.alloc wr (.cells #[.string r.1, .slice A1 n1 c1] 80)).cell? ⟨wr.heap.size, 0, none⟩ = some (.string r.1) := (At.box (i := 0) _ _ rfl).1
      have e1 : (World.alloc wr (.cells #[.string r.1, .slice A1 n1 c1] 80)).cell? ⟨wr.heap.size, 1, none⟩ = some (.slice A1 n1 c1) := (At.box (i := 1) _ _ rfl).1
      have k0 := cell_gr e0 hrow.out
      have k1 := cell_gr e1 hrow.out
      go_wp2_with fail
      clear h0 h1 x0 x1
      refine wp_region_fltR (Grow (Value.slice A' i c').ownBlock) (Grow.refl _) (Grow.trans _) (fun _ _ h => h.any) [(0, 0), (0, 1), (0, 2), (0, 3), (0, 4), (3, 5), (0, 6), (3, 7), (3, 8), (0, 9)] (by kernel_rfl) (by kernel_rfl) ?_
      repeat (refine flt_pas (by rfl) (fun K hK => ?_); go_simp; refine hK _ _ (fun w' hw' => (by first | (go_simp; done) | (go_simp; intro hh; cases hh))) ?_; clear hK K)
      (refine flt_callX (by rfl) (fun K hK => ?_); go_simp; refine hK _ _ ?_; clear hK K)
      refine (eown_any (HP.out.below (belowA _ _).drew) (HPP.out r (List.mem_of_getElem? HQ.out)) hL1 hL (by omega)).mono ?_
      rintro e w1 ⟨B1, m1, d1, rfl, hpw, hm0, hb1⟩
      have hm1 : m1 ≤ 1073741824 := by omega
      clear hm0
      refine ⟨_, rfl, Grow.of_below hb1, ?_⟩
      (refine flt_norm (fun K hK => ?_); go_simp; refine hK _ ?_; clear hK K)
      repeat (refine flt_pas (by rfl) (fun K hK => ?_); go_simp; refine hK _ _ (fun w' hw' => (by first | (go_simp; done) | (go_simp; intro hh; cases hh))) ?_; clear hK K)
      clear k0 k1 e0 e1
      have HB : Hid (Below w.heap.size w w1) := bt (bt hI.out.2 (belowA _ _).drew) hb1
      have HS2 : Hid (w.heap.size ≤ (World.drew (World.alloc wr (.cells #[.string r.1, .slice A1 n1 c1] 80))).heap.size) := by
        have h2 := HW0.out
        have h3 : wr.heap.size + 1 = (World.drew (World.alloc wr (.cells #[.string r.1, .slice A1 n1 c1] 80))).heap.size := by simp
        show _ ≤ _
        omega
      have HCR : Hid (OwnB w.heap.size L w1 (r.1, (B1, m1, d1)) (fq r)) := ⟨rfl, hpw.mono HS2.out, HS.out, hm1⟩
      obtain ⟨⟨hs', p1, p2⟩, p3⟩ := (hI.out.below (belowA _ _).drew).below hb1
      have HK := Lib.hid p1
      have HK2 := Lib.hid p2
      have HZ : Hid (w.heap.size ≤ w1.heap.size) := HB.out.size
      clear p1 p2 p3 hb1 hpw
      (refine flt_actX (by rfl) (fun K hK => ?_); go_simp)
      refine hK _ _ ⟨Grow.of_below (belowA _ _), ?_⟩
      clear hK K
      (refine flt_norm (fun K hK => ?_); go_simp; refine hK _ ?_; clear hK K)
      refine flt_appK (.tmp 12) (.tmp 19) (by rfl) rfl rfl HEL.out (B := w.heap.size) (us := [.string r.1, .slice B1 m1 d1]) rfl rfl (HK.out.below (belowA _ _)) (RowK.lit (k := 2) (T := 80) (B := 0) w1 1 [.string r.1, .slice B1 m1 d1] (by simp) rfl (by omega) (Nat.zero_le _)).rd (by simp [Value.oneCell']) (by omega) (by omega) (by have := HZ.out; simp; omega) (fun w' _ h => h) (fun A4 c4 w4 ho hb4 hg4 => ?_)
      have HN : Hid (EI w L bs (i + 1) A4 c4 w4) := EI.grown (hs := hs') (h := (r.1, (B1, m1, d1))) ho (HK2.out.imp fun _ _ e => (e.below (belowA _ _)).grown (HK.out.below (belowA _ _)) hg4) ((HCR.out.below (belowA _ _)).grown (HK.out.below (belowA _ _)) hg4) HQ.out ((HB.out.alloc HB.out.size _).trans hb4)
      clear ho hb4 hg4
      (refine flt_norm (fun K hK => ?_); go_simp; refine hK _ ?_; clear hK K)
      repeat (refine flt_pas (by rfl) (fun K hK => ?_); go_simp; refine hK _ _ (fun w' hw' => (by first | (go_simp; done) | (go_simp; intro hh; cases hh))) ?_; clear hK K)
      refine flt_nil ?_
      go_wp2
      go_roundw
      case rel => exact ⟨i + 1, A4, c4, HN, by omega, rfl, by go_num⟩
      case measure => simp [intOf]; omega
    · obtain rfl : i = n := by omega
      obtain ⟨⟨hs, k1, k2⟩, k3⟩ := hI.out
      rw [List.take_of_length_le (by have := HNQ.out; omega)] at k2
      have HR : Hid (ListO w.heap.size L wr A' i c' (bs.map fq) ∧ Below w.heap.size w wr) := ⟨⟨hs, k1, k2⟩, k3⟩
      clear k1 k2 k3 hI
      go_wp2
      go_ret
      exact ⟨A', c', rfl, HR.out.1, HR.out.2⟩

/-- where a name stands first -/
def atn : List ByteArray → ByteArray → Nat
  | [], _ => 0
  | s :: ns, t => if s = t then 0 else atn ns t + 1
theorem nat_c0 (s : ByteArray) (ns : List ByteArray) : nat_ (s :: ns) 0 = s := rfl
theorem nat_cs (s : ByteArray) (ns : List ByteArray) (k : Nat) : nat_ (s :: ns) (k + 1) = nat_ ns k := rfl
theorem atn_uniq : ∀ (ns : List ByteArray) (t : ByteArray) (p : Nat), p ≤ ns.length → (∀ k, k < p → nat_ ns k ≠ t) → (p < ns.length → nat_ ns p = t) → atn ns t = p
  | [], t, p, h1, _, _ => by simp at h1; subst h1; rfl
  | s :: ns, t, p, h1, h2, h3 => by
    unfold atn
    cases p with
    | zero => rw [if_pos (by have := h3 (by simp); rwa [nat_c0] at this)]
    | succ p =>
      rw [if_neg (by have := h2 0 (Nat.succ_pos _); rwa [nat_c0] at this)]
      rw [atn_uniq ns t p (by simpa using h1) (fun k hk => by have := h2 (k + 1) (by omega); rwa [nat_cs] at this) (fun hk => by have := h3 (by simpa using hk); rwa [nat_cs] at this)]
theorem atn_le : ∀ (ns : List ByteArray) (t : ByteArray), atn ns t ≤ ns.length
  | [], t => Nat.le_refl _
  | s :: ns, t => by
    have := atn_le ns t
    unfold atn
    split
    · simp
    · simp; omega
theorem atn_at : ∀ (ns : List ByteArray) (t : ByteArray), atn ns t < ns.length → nat_ ns (atn ns t) = t
  | [], t, h => by simp at h
  | s :: ns, t, h => by
    unfold atn at h ⊢
    split
    · rename_i e; rw [nat_c0]; exact e
    · rename_i e
      rw [if_neg e] at h
      rw [nat_cs]
      exact atn_at ns t (by simpa using h)
theorem atn_before : ∀ (ns : List ByteArray) (t : ByteArray) (k : Nat), k < atn ns t → nat_ ns k ≠ t
  | [], t, k, h => by simp [atn] at h
  | s :: ns, t, k, h => by
    unfold atn at h
    split at h
    · omega
    · rename_i e
      cases k with
      | zero => rw [nat_c0]; exact e
      | succ k => rw [nat_cs]; exact atn_before ns t k (by omega)
def getc (bs : List Bn) (t : ByteArray) : Int := if goodl bs = true then (if nm t = 0 then (if atn (bs.map (·.1)) t < bs.length then 0 else 6) else nm t) else 3
def getq (bs : List Bn) (t : ByteArray) : List Cn := if getc bs t = 0 then pn (bnat bs (atn (bs.map (·.1)) t)).2 else []
def getp (bs : List Bn) (t : ByteArray) : Int := if getc bs t = 0 then (atn (bs.map (·.1)) t : Int) else 0
theorem getp_zero {bs : List Bn} {t : ByteArray} (h : getc bs t ≠ 0) : getp bs t = 0 := if_neg h
theorem getp_yes {bs : List Bn} {t : ByteArray} (h : getc bs t = 0) : getp bs t = (atn (bs.map (·.1)) t : Int) := if_pos h
theorem getc_bad {bs : List Bn} {t : ByteArray} (h : goodl bs = false) : getc bs t = 3 := by unfold getc; rw [if_neg (by rw [h]; decide)]
theorem getc_nm {bs : List Bn} {t : ByteArray} (h : goodl bs = true) (h2 : nm t ≠ 0) : getc bs t = nm t := by unfold getc; rw [if_pos h, if_neg h2]
theorem getc_no {bs : List Bn} {t : ByteArray} (h : goodl bs = true) (h2 : nm t = 0) (h3 : ¬ atn (bs.map (·.1)) t < bs.length) : getc bs t = 6 := by unfold getc; rw [if_pos h, if_pos h2, if_neg h3]
theorem getc_yes {bs : List Bn} {t : ByteArray} (h : goodl bs = true) (h2 : nm t = 0) (h3 : atn (bs.map (·.1)) t < bs.length) : getc bs t = 0 := by unfold getc; rw [if_pos h, if_pos h2, if_pos h3]
theorem getc_zero {bs : List Bn} {t : ByteArray} (h : getc bs t = 0) : goodl bs = true ∧ nm t = 0 ∧ atn (bs.map (·.1)) t < bs.length := by
  unfold getc at h
  split at h
  · rename_i h1
    split at h
    · rename_i h2
      split at h
      · rename_i h3; exact ⟨h1, h2, h3⟩
      · omega
    · rename_i h2; exact absurd h h2
  · omega
theorem good_at {bs : List Bn} {t : ByteArray} {j : Nat} (h : goodl bs = true) (hj : j ≤ bs.length) (h1 : ∀ k, k < j → bcmp (nat_ (bs.map (·.1)) k) t < 0) (h2 : ∀ k, j ≤ k → k < bs.length → 0 ≤ bcmp (nat_ (bs.map (·.1)) k) t) :
    (j < bs.length ∧ bcmp (nat_ (bs.map (·.1)) j) t = 0 → atn (bs.map (·.1)) t = j) ∧ (¬ (j < bs.length ∧ bcmp (nat_ (bs.map (·.1)) j) t = 0) → atn (bs.map (·.1)) t = bs.length) := by
  constructor
  · rintro ⟨a, b⟩
    exact atn_uniq _ _ _ (by rw [List.length_map]; omega) (fun k hk e => by have := h1 k hk; rw [bcmp_eq.2 e] at this; omega) (fun _ => bcmp_eq.1 b)
  · intro hn
    refine atn_uniq _ _ _ (by rw [List.length_map]; omega) (fun k hk e => ?_) (fun h3 => by rw [List.length_map] at h3; omega)
    have hz := bcmp_eq.2 e
    rcases Nat.lt_trichotomy k j with h3 | h3 | h3
    · have := h1 k h3; omega
    · subst h3; exact hn ⟨hk, hz⟩
    · have h4 := h2 j (Nat.le_refl _) (by omega)
      have h5 := goodl_lt h (i := j) (d := k - j - 1) (by omega)
      rw [show j + (k - j - 1) + 1 = k by omega, e] at h5
      omega
set_option maxHeartbeats 4000000 in
theorem place_any {L n c : Nat} {A : Option Addr} {bs : List Bn} {t : ByteArray} {w : World} (h : ListI L w (.slice A n c) bs) (hts : t.size ≤ maxLen) (hL1 : 1 ≤ L) (hL : L ≤ 268435456) (hn : n ≤ 1073741824) :
    Calls Try.prog 48 #[.slice A n c, .string t] w (Keeps (.tuple #[.int .i64 (getp bs t), .int .i64 (getc bs t)]) w) := by
  have H := Lib.hid h
  have HNQ : Hid (n = bs.length) := h.len.1
  have CG := Lib.hid (egood_any h hL1 hL hn)
  have CN := Lib.hid fun w' => ename_any t w' hts
  clear h hts
  rcases Bool.eq_false_or_eq_true (goodl bs) with hg | hg
  · rw [hg] at CG
    have HG := Lib.hid hg
    by_cases hz : nm t = 0
    · rw [hz] at CN
      have HZ := Lib.hid hz
      clear hz hg
      go_enter Try.func48, Try.ntmps48
      go_wp2_with fail
      refine (CG.out).mono ?_
      rintro e w1 ⟨rfl, hb1⟩
      go_wp2_with fail
      refine (CN.out _).mono ?_
      rintro e w2 ⟨rfl, rfl⟩
      go_wp2_with fail
      refine (find_any (t := t) (H.out.below hb1).nam (by omega) (fun a b h1 h2 h3 => goodl_mono HG.out t h1 (by have := HNQ.out; omega) h3)).mono ?_
      rintro e w3 ⟨j, rfl, hj, hb3⟩
      have hga := good_at HG.out (by have := hj.out.1; have := HNQ.out; omega) hj.out.2.1 (fun k h1 h2 => hj.out.2.2 k h1 (by have := HNQ.out; omega))
      have HB : Hid (Below w.heap.size w w3) := (bt hb1 hb3)
      by_cases hf : j < bs.length ∧ bcmp (nat_ (bs.map (·.1)) j) t = 0
      · have HA : Hid (atn (bs.map (·.1)) t = j) := hga.1 hf
        have HC : Hid (getc bs t = 0) := getc_yes HG.out HZ.out (by rw [HA.out]; exact hf.1)
        have HPP : Hid (getp bs t = (j : Int)) := by rw [← HA.out]; exact getp_yes HC.out
        rw [decide_eq_true (p := j < n) (by rw [HNQ.out]; exact hf.1), decide_eq_true hf.2]
        clear hf hga hj
        go_wp2
        go_ret2
        exact ⟨by rw [HC.out, HPP.out]; rfl, HB.out⟩
      · have HA : Hid (atn (bs.map (·.1)) t = bs.length) := hga.2 hf
        have HC : Hid (getc bs t = 6) := getc_no HG.out HZ.out (by rw [HA.out]; omega)
        have HPP : Hid (getp bs t = 0) := getp_zero (by rw [HC.out]; decide)
        have hd : (decide (j < n) && decide (bcmp (nat_ (bs.map (·.1)) j) t = 0)) = false := by
          rw [Bool.and_eq_false_iff, decide_eq_false_iff_not, decide_eq_false_iff_not]
          have := HNQ.out
          by_cases h1 : j < bs.length
          · exact .inr fun h2 => hf ⟨h1, h2⟩
          · exact .inl (by omega)
        rw [hd]
        clear hf hga hj hd
        go_wp2
        go_ret2
        exact ⟨by rw [HC.out, HPP.out]; rfl, HB.out⟩
    · have HC : Hid (getc bs t = nm t) := getc_nm hg hz
      have HPP : Hid (getp bs t = 0) := getp_zero (by rw [HC.out]; exact hz)
      have d1 : (nm t == 0) = false := by rw [beq_eq_false_iff_ne]; exact hz
      have d2 : (nm t != 0) = true := by simp [bne, d1]
      have HZ := Lib.hid hz
      clear hz hg
      generalize nm t = z at *
      go_enter Try.func48, Try.ntmps48
      go_wp2_with fail
      refine (CG.out).mono ?_
      rintro e w2 ⟨rfl, hb2⟩
      go_wp2_with fail
      refine (CN.out _).mono ?_
      rintro e w2 ⟨rfl, rfl⟩
      have HB : Hid (Below w.heap.size w w2) := hb2
      go_wp2
      go_ret2
      exact ⟨by rw [HC.out, HPP.out]; rfl, HB.out⟩
  · rw [hg] at CG
    have HC : Hid (getc bs t = 3) := getc_bad hg
    have HPP : Hid (getp bs t = 0) := getp_zero (by rw [HC.out]; decide)
    clear hg
    go_enter Try.func48, Try.ntmps48
    go_wp2_with fail
    refine (CG.out).mono ?_
    rintro e w3 ⟨rfl, hb3⟩
    have HB : Hid (Below w.heap.size w w3) := hb3
    go_wp2
    go_ret2
    exact ⟨by rw [HC.out, HPP.out]; rfl, HB.out⟩
def GGet (w : World) (L : Nat) (bs : List Bn) (t : ByteArray) (e : Ending) (w' : World) : Prop :=
  ∃ A n c, e = .returned (.tuple #[.slice A n c, .int .i64 (getc bs t)]) ∧ PolyO w.heap.size L w' (.slice A n c) (getq bs t) ∧ n ≤ 1073741824 ∧ Below w.heap.size w w'
theorem PolyO.nil {B L : Nat} {w : World} : PolyO B L w (.slice none 0 0) [] := ⟨none, 0, 0, [], rfl, RowK.nil, rfl, All2.nil⟩
theorem good_right {bs : List Bn} {i : Nat} (h : goodl bs = true) (hi : i < bs.length) : rightc (bnat bs i) = 0 := by
  have := (okAt_all h).1 i hi
  cases i with
  | zero => rw [okAt_zero] at this; simpa using this
  | succ k => rw [okAt_succ, Bool.and_eq_true] at this; simpa using this.1
set_option maxHeartbeats 4000000 in
theorem eget_any {L n c : Nat} {A : Option Addr} {bs : List Bn} {t : ByteArray} {w : World} (h : ListI L w (.slice A n c) bs) (hts : t.size ≤ maxLen) (hL1 : 1 ≤ L) (hL : L ≤ 268435456) (hn : n ≤ 1073741824) :
    Calls Try.prog 40 #[.slice A n c, .string t] w (GGet w L bs t) := by
  have H := Lib.hid h
  have HNQ : Hid (n = bs.length) := h.len.1
  have CP := Lib.hid (place_any h hts hL1 hL hn)
  clear h hts
  by_cases hz : getc bs t = 0
  · obtain ⟨hg, ht, hi⟩ := getc_zero hz
    have HGQ : Hid (getq bs t = pn (bnat bs (atn (bs.map (·.1)) t)).2) := if_pos hz
    have HC := Lib.hid hz
    have HRZ := Lib.hid (good_right hg hi)
    rw [getp_yes hz, hz] at CP
    obtain ⟨i, hei⟩ : ∃ i, i = atn (bs.map (·.1)) t := ⟨_, rfl⟩
    rw [← hei] at CP HGQ HRZ hi
    obtain ⟨r, er⟩ : ∃ r, bs[i]? = some r := ⟨_, List.getElem?_eq_getElem hi⟩
    rw [bnat_of er] at HRZ HGQ
    have HER := Lib.hid er
    have hin : i < n := by have := HNQ.out; omega
    clear hz hg ht hei er
    go_enter Try.func40, Try.ntmps40
    go_wp2_with fail
    refine (CP.out).mono ?_
    rintro e w1 ⟨rfl, hb1⟩
    obtain ⟨b, off, A1, n1, c1, r', e, hb, eq, h0, h1, h3, h4, h5⟩ := (H.out.below hb1).at (i := i) hi
    obtain rfl : r = r' := by have := HER.out.symm.trans eq; injection this
    have HP := Lib.hid h3
    subst e
    have i1 : (0 : Int) ≤ (i : Int) := by omega
    have i2 : (i : Int) < (n : Int) := by omega
    have x1 := h1.1
    clear h0 h1 h3 eq
    go_wp2_with fail
    refine (eown_any HP.out (fitc_pos (rightc_zero HRZ.out).2) hL1 hL h5).mono ?_
    rintro e w3 ⟨A', n', c', rfl, hpo, hn', hb3⟩
    have HR := Lib.hid (And.intro (hpo.mono hb1.size) (bt hb1 hb3))
    clear hpo hb3 x1
    go_wp2
    go_ret2
    exact ⟨A', n', c', by rw [HC.out]; rfl, by rw [HGQ.out]; exact HR.out.1, by omega, HR.out.2⟩
  · have HGQ : Hid (getq bs t = []) := if_neg hz
    rw [getp_zero hz] at CP
    have d1 : (getc bs t == 0) = false := by rw [beq_eq_false_iff_ne]; exact hz
    have d2 : (getc bs t != 0) = true := by simp [bne, d1]
    have HE : Hid (∃ z, z = getc bs t) := ⟨_, rfl⟩
    obtain ⟨z, hz2⟩ := HE.out
    have HZ := Lib.hid hz2
    rw [← hz2] at CP d1 d2
    clear hz hz2 HE
    go_enter Try.func40, Try.ntmps40
    go_wp2_with fail
    refine (CP.out).mono ?_
    rintro e w2 ⟨rfl, hb2⟩
    have HB : Hid (Below w.heap.size w w2) := hb2
    go_wp2
    go_ret2
    exact ⟨none, 0, 0, by rw [← HZ.out]; rfl, by rw [HGQ.out]; exact PolyO.nil, by omega, HB.out⟩
end Go.Proofs.Ytphofjinncbaaaa
namespace Go.Proofs.Ytphofjinncbaaaa
open Go.RowKit
set_option linter.unusedVariables false
set_option linter.unusedSimpArgs false

/-- names that rise -/
def Asc : List ByteArray → Prop
  | [] => True
  | s :: ns => (∀ t ∈ ns, bcmp s t < 0) ∧ Asc ns
theorem bcmp_self (s : ByteArray) : bcmp s s = 0 := bcmp_eq.2 rfl
theorem bcmp_ne {s t : ByteArray} (h : bcmp s t < 0) : s ≠ t := fun e => by subst e; rw [bcmp_self] at h; omega
theorem mem_nat {ns : List ByteArray} {t : ByteArray} (h : t ∈ ns) : ∃ k, k < ns.length ∧ nat_ ns k = t := by
  obtain ⟨k, hk, e⟩ := List.getElem_of_mem h
  exact ⟨k, hk, by unfold nat_; rw [List.getElem?_eq_getElem hk]; exact e⟩
theorem nat_mem {ns : List ByteArray} {k : Nat} (h : k < ns.length) : nat_ ns k ∈ ns := by
  unfold nat_
  rw [List.getElem?_eq_getElem h]
  exact List.getElem_mem h
theorem rises_asc : ∀ {qs : List Bq}, Rises qs ↔ Asc (qs.map (·.1))
  | [] => ⟨fun _ => trivial, fun _ i j _ h => by simp at h⟩
  | q :: qs => by
    rw [rises_cons, rises_asc (qs := qs)]
    show _ ↔ (∀ t ∈ qs.map (·.1), bcmp q.1 t < 0) ∧ Asc (qs.map (·.1))
    refine and_congr_left fun _ => ⟨fun h t ht => ?_, fun h j hj => ?_⟩
    · obtain ⟨k, hk, e⟩ := mem_nat ht
      rw [← e]
      exact h k (by simpa using hk)
    · exact h _ (nat_mem (by simpa using hj))
/-- the members give the list -/
theorem asc_ext : ∀ {l m : List ByteArray}, Asc l → Asc m → (∀ t, t ∈ l ↔ t ∈ m) → l = m
  | [], [], _, _, _ => rfl
  | [], y :: m, _, _, h => by have := (h y).2 (by simp); simp at this
  | x :: l, [], _, _, h => by have := (h x).1 (by simp); simp at this
  | x :: l, y :: m, hl, hm, h => by
    have hxy : x = y := by
      rcases List.mem_cons.1 ((h x).1 (by simp)) with e | e
      · exact e
      · rcases List.mem_cons.1 ((h y).2 (by simp)) with e2 | e2
        · exact e2.symm
        · have h1 := hm.1 x e
          have h2 := hl.1 y e2
          have h3 := bcmp_anti x y
          omega
    subst hxy
    congr 1
    refine asc_ext hl.2 hm.2 fun t => ?_
    have ht := h t
    rw [List.mem_cons, List.mem_cons] at ht
    constructor
    · intro hm1
      rcases ht.1 (.inr hm1) with e | e
      · exact absurd e.symm (bcmp_ne (hl.1 t hm1))
      · exact e
    · intro hm1
      rcases ht.2 (.inr hm1) with e | e
      · exact absurd e.symm (bcmp_ne (hm.1 t hm1))
      · exact e
theorem asc_filter : ∀ {l : List ByteArray} (p : ByteArray → Bool), Asc l → Asc (l.filter p)
  | [], _, _ => trivial
  | x :: l, p, h => by
    rw [List.filter_cons]
    split
    · exact ⟨fun t ht => h.1 t (List.mem_filter.1 ht).1, asc_filter p h.2⟩
    · exact asc_filter p h.2
theorem fq_names (bs : List Bn) : (bs.map fq).map (·.1) = bs.map (·.1) := by rw [List.map_map]; rfl
theorem goodl_rises {bs : List Bn} (h : goodl bs = true) : Rises (bs.map fq) := fun i j hij hj => by
  rw [fq_names]
  rw [List.length_map] at hj
  have h5 := goodl_lt h (i := i) (d := j - i - 1) (by omega)
  rwa [show i + (j - i - 1) + 1 = j by omega] at h5
theorem rises_pos {qs : List Bq} (h : Rises qs) (t : ByteArray) : PosOf qs t (posOf_ex h t).choose := (posOf_ex h t).choose_spec
/-- what a name is bound to -/
def lk : List Bq → ByteArray → Option (List Cn)
  | [], _ => none
  | q :: qs, t => if q.1 = t then some q.2 else lk qs t
theorem lk_none : ∀ {qs : List Bq} {t : ByteArray}, lk qs t = none ↔ t ∉ qs.map (·.1)
  | [], t => by simp [lk]
  | q :: qs, t => by
    unfold lk
    split
    · rename_i e; subst e; simp
    · rename_i e
      rw [lk_none (qs := qs)]
      simp only [List.map_cons, List.mem_cons, not_or]
      exact ⟨fun h => ⟨fun e2 => e e2.symm, h⟩, fun h => h.2⟩
theorem lk_ne {q : Bq} {qs : List Bq} {t : ByteArray} (h : ¬ t = q.1) : lk (q :: qs) t = lk qs t := by
  conv => lhs; unfold lk
  rw [if_neg (fun e => h e.symm)]
theorem lk_asc {q : Bq} {qs : List Bq} {t : ByteArray} (h : ∀ s ∈ qs.map (·.1), bcmp q.1 s < 0) (ht : bcmp t q.1 < 0) : lk (q :: qs) t = none := by
  rw [lk_none]
  intro hm
  rcases List.mem_cons.1 hm with e | e
  · subst e; rw [bcmp_self] at ht; omega
  · have h1 := h t e
    have h2 := bcmp_anti t q.1
    omega
theorem lk_at : ∀ {qs : List Bq} {i : Nat} {q : Bq}, Asc (qs.map (·.1)) → qs[i]? = some q → lk qs q.1 = some q.2
  | [], i, q, _, h => by simp at h
  | x :: qs, 0, q, _, h => by simp at h; subst h; unfold lk; rw [if_pos rfl]
  | x :: qs, i + 1, q, ha, h => by
    have hm : q.1 ∈ qs.map (·.1) := List.mem_map.2 ⟨q, List.mem_of_getElem? (i := i) (by simpa using h), rfl⟩
    unfold lk
    rw [if_neg (bcmp_ne (ha.1 _ hm))]
    exact lk_at ha.2 (by simpa using h)
/-- bound in one alone, or unlike -/
def difP (A B : List Bq) (t : ByteArray) : Bool := match lk A t, lk B t with
  | some p, some q => !decide (p = q)
  | _, _ => true
/-- the program's merge -/
def difm : List Bq → List Bq → List ByteArray
  | [], ys => ys.map (·.1)
  | x :: xs, [] => x.1 :: difm xs []
  | x :: xs, y :: ys => if bcmp x.1 y.1 < 0 then x.1 :: difm xs (y :: ys) else if bcmp y.1 x.1 < 0 then y.1 :: difm (x :: xs) ys else if x.2 = y.2 then difm xs ys else x.1 :: difm xs ys
termination_by xs ys => xs.length + ys.length
theorem difP_none {A B : List Bq} {t : ByteArray} (h : lk A t = none ∨ lk B t = none) : difP A B t = true := by
  unfold difP
  rcases h with h | h
  · rw [h]
  · rw [h]
    cases lk A t <;> rfl
theorem difm_mem : ∀ {A B : List Bq}, Asc (A.map (·.1)) → Asc (B.map (·.1)) → ∀ t, t ∈ difm A B ↔ (t ∈ A.map (·.1) ∨ t ∈ B.map (·.1)) ∧ difP A B t = true
  | [], ys, _, _, t => by
    rw [difm, difP_none (.inl rfl)]
    simp
  | x :: xs, [], ha, hb, t => by
    rw [difm, difP_none (.inr rfl)]
    have ih := difm_mem (A := xs) (B := []) ha.2 hb t
    rw [difP_none (.inr rfl)] at ih
    rw [List.mem_cons, ih]
    simp
  | x :: xs, y :: ys, ha, hb, t => by
    rw [difm]
    by_cases c1 : bcmp x.1 y.1 < 0
    · rw [if_pos c1]
      have ih := difm_mem (A := xs) (B := y :: ys) ha.2 hb t
      rw [List.mem_cons, ih]
      have hn : lk (y :: ys) x.1 = none := lk_asc hb.1 c1
      by_cases e : t = x.1
      · subst e
        rw [difP_none (A := x :: xs) (.inr hn)]
        simp
      · have h1 : difP (x :: xs) (y :: ys) t = difP xs (y :: ys) t := by
          unfold difP
          rw [lk_ne e]
        rw [h1]
        simp only [List.map_cons, List.mem_cons, e, false_or]
    · rw [if_neg c1]
      by_cases c2 : bcmp y.1 x.1 < 0
      · rw [if_pos c2]
        have ih := difm_mem (A := x :: xs) (B := ys) ha hb.2 t
        rw [List.mem_cons, ih]
        have hn : lk (x :: xs) y.1 = none := lk_asc ha.1 c2
        by_cases e : t = y.1
        · subst e
          rw [difP_none (B := y :: ys) (.inl hn)]
          simp
        · have h1 : difP (x :: xs) (y :: ys) t = difP (x :: xs) ys t := by
            unfold difP
            rw [lk_ne e]
          rw [h1]
          simp only [List.map_cons, List.mem_cons, e, false_or]
      · rw [if_neg c2]
        have e0 : x.1 = y.1 := by
          have h3 := bcmp_anti x.1 y.1
          exact bcmp_eq.1 (by omega)
        have ih := difm_mem (A := xs) (B := ys) ha.2 hb.2 t
        have hl : t ≠ x.1 → difP (x :: xs) (y :: ys) t = difP xs ys t := fun e => by
          unfold difP
          rw [lk_ne e, lk_ne (q := y) (fun e2 => e (by rw [e0]; exact e2))]
        have hx : difP (x :: xs) (y :: ys) x.1 = !decide (x.2 = y.2) := by
          unfold difP
          rw [show lk (x :: xs) x.1 = some x.2 by unfold lk; rw [if_pos rfl], show lk (y :: ys) x.1 = some y.2 by unfold lk; rw [if_pos e0.symm]]
        have nx : x.1 ∉ xs.map (·.1) := fun hm => bcmp_ne (ha.1 _ hm) rfl
        have ny : x.1 ∉ ys.map (·.1) := fun hm => bcmp_ne (hb.1 _ hm) e0.symm
        by_cases c3 : x.2 = y.2
        · rw [if_pos c3, ih]
          by_cases e : t = x.1
          · subst e
            rw [hx, decide_eq_true c3]
            simp [nx, ny]
          · rw [hl e]
            have e' : ¬ t = y.1 := fun h => e (by rw [e0]; exact h)
            simp only [List.map_cons, List.mem_cons, e, e', false_or]
        · rw [if_neg c3, List.mem_cons, ih]
          by_cases e : t = x.1
          · subst e
            rw [hx, decide_eq_false c3]
            simp
          · rw [hl e]
            have e' : ¬ t = y.1 := fun h => e (by rw [e0]; exact h)
            simp only [List.map_cons, List.mem_cons, e, e', false_or]
termination_by A B => A.length + B.length
theorem difm_asc : ∀ {A B : List Bq}, Asc (A.map (·.1)) → Asc (B.map (·.1)) → Asc (difm A B)
  | [], ys, _, hb => by rw [difm]; exact hb
  | x :: xs, [], ha, hb => by
    rw [difm]
    refine ⟨fun t ht => ?_, difm_asc ha.2 hb⟩
    rcases ((difm_mem ha.2 hb t).1 ht).1 with h | h
    · exact ha.1 t h
    · simp at h
  | x :: xs, y :: ys, ha, hb => by
    rw [difm]
    by_cases c1 : bcmp x.1 y.1 < 0
    · rw [if_pos c1]
      refine ⟨fun t ht => ?_, difm_asc ha.2 hb⟩
      rcases ((difm_mem ha.2 hb t).1 ht).1 with h | h
      · exact ha.1 t h
      · rcases List.mem_cons.1 h with e | e
        · subst e; exact c1
        · exact bcmp_trans c1 (hb.1 t e)
    · rw [if_neg c1]
      by_cases c2 : bcmp y.1 x.1 < 0
      · rw [if_pos c2]
        refine ⟨fun t ht => ?_, difm_asc ha hb.2⟩
        rcases ((difm_mem ha hb.2 t).1 ht).1 with h | h
        · rcases List.mem_cons.1 h with e | e
          · subst e; exact c2
          · exact bcmp_trans c2 (ha.1 t e)
        · exact hb.1 t h
      · rw [if_neg c2]
        have e0 : x.1 = y.1 := by
          have h3 := bcmp_anti x.1 y.1
          exact bcmp_eq.1 (by omega)
        split
        · exact difm_asc ha.2 hb.2
        · refine ⟨fun t ht => ?_, difm_asc ha.2 hb.2⟩
          rcases ((difm_mem ha.2 hb.2 t).1 ht).1 with h | h
          · exact ha.1 t h
          · rw [e0]; exact hb.1 t h
termination_by A B => A.length + B.length
theorem insq_mem : ∀ (qs : List Bq) (b : Bq) (t : ByteArray), t ∈ (insq qs b).map (·.1) ↔ t = b.1 ∨ t ∈ qs.map (·.1)
  | [], b, t => by simp [insq]
  | q :: qs, b, t => by
    unfold insq
    by_cases c1 : bcmp q.1 b.1 < 0
    · rw [if_pos c1, List.map_cons, List.mem_cons, insq_mem qs b t, List.map_cons, List.mem_cons]
      constructor
      · rintro (h | h | h)
        · exact .inr (.inl h)
        · exact .inl h
        · exact .inr (.inr h)
      · rintro (h | h | h)
        · exact .inr (.inl h)
        · exact .inl h
        · exact .inr (.inr h)
    · rw [if_neg c1]
      by_cases c2 : bcmp q.1 b.1 = 0
      · rw [if_pos c2]
        have e : q.1 = b.1 := bcmp_eq.1 c2
        simp [e]
      · rw [if_neg c2]
        simp
theorem insq_lk : ∀ {qs : List Bq} {b : Bq} {t : ByteArray}, t ≠ b.1 → lk (insq qs b) t = lk qs t
  | [], b, t, h => by
    unfold insq
    exact lk_ne h
  | q :: qs, b, t, h => by
    unfold insq
    by_cases c1 : bcmp q.1 b.1 < 0
    · rw [if_pos c1]
      unfold lk
      rw [insq_lk h]
    · rw [if_neg c1]
      by_cases c2 : bcmp q.1 b.1 = 0
      · rw [if_pos c2]
        have e : q.1 = b.1 := bcmp_eq.1 c2
        rw [lk_ne h, lk_ne (q := q) (by rw [e]; exact h)]
      · rw [if_neg c2, lk_ne h]
/-- names alone -/
theorem insq_nm : ∀ (qs rs : List Bq) (b d : Bq), qs.map (·.1) = rs.map (·.1) → b.1 = d.1 → (insq qs b).map (·.1) = (insq rs d).map (·.1)
  | [], [], b, d, _, h => by simp [insq, h]
  | [], _ :: _, _, _, h, _ => by simp at h
  | _ :: _, [], _, _, h, _ => by simp at h
  | q :: qs, r :: rs, b, d, h, hb => by
    simp only [List.map_cons, List.cons.injEq] at h
    unfold insq
    rw [h.1, hb]
    split
    · rw [List.map_cons, List.map_cons, h.1, insq_nm qs rs b d h.2 hb]
    · split
      · rw [List.map_cons, List.map_cons, hb, h.2]
      · simp only [List.map_cons, hb, h.1, h.2]
theorem ofq_mem (bs : List Bn) : ∀ (acc : List Bq) (t : ByteArray), t ∈ (ofq acc bs).map (·.1) ↔ t ∈ acc.map (·.1) ∨ t ∈ bs.map (·.1) := by
  induction bs with
  | nil => intro acc t; simp [ofq]
  | cons b bs ih =>
    intro acc t
    show t ∈ (ofq (insq acc (b.1, pn b.2)) bs).map (·.1) ↔ _
    rw [ih, insq_mem]
    simp only [List.map_cons, List.mem_cons]
    constructor
    · rintro ((h | h) | h)
      · exact .inr (.inl h)
      · exact .inl h
      · exact .inr (.inr h)
    · rintro (h | h | h)
      · exact .inl (.inr h)
      · exact .inl (.inl h)
      · exact .inr h
/-- the document's answer is the merge -/
theorem difm_filter {A B : List Bq} {us : List ByteArray} (ha : Asc (A.map (·.1))) (hb : Asc (B.map (·.1))) (hu : Asc us) (h : ∀ t, t ∈ us ↔ t ∈ A.map (·.1) ∨ t ∈ B.map (·.1)) : us.filter (difP A B) = difm A B := by
  refine asc_ext (asc_filter _ hu) (difm_asc ha hb) fun t => ?_
  rw [List.mem_filter, difm_mem ha hb t, h t]
/-- what is left -/
theorem filter_at : ∀ {qs : List Bq} {t : ByteArray} {i : Nat}, Asc (qs.map (·.1)) → i < qs.length → nat_ (qs.map (·.1)) i = t → qs.filter (fun q => !decide (q.1 = t)) = qs.take i ++ qs.drop (i + 1)
  | [], t, i, _, h, _ => by simp at h
  | q :: qs, t, 0, ha, _, ht => by
    have ht' : q.1 = t := ht
    rw [List.filter_cons, decide_eq_true ht']
    simp only [Bool.not_true, Bool.false_eq_true, if_false, List.take_zero, List.nil_append, List.drop_succ_cons, List.drop_zero]
    rw [List.filter_eq_self]
    intro x hx
    have this : q.1 ≠ x.1 := bcmp_ne (ha.1 x.1 (List.mem_map.2 ⟨x, hx, rfl⟩))
    rw [ht'] at this
    simpa using fun e => this e.symm
  | q :: qs, t, i + 1, ha, h, ht => by
    have h' : i < qs.length := by simpa using h
    have ht' : nat_ (qs.map (·.1)) i = t := ht
    have hne : q.1 ≠ t := bcmp_ne (ha.1 t (by rw [← ht']; exact nat_mem (by simpa using h')))
    rw [List.filter_cons, decide_eq_false hne]
    simp only [Bool.not_false, if_true, List.take_succ_cons, List.drop_succ_cons, List.cons_append]
    rw [filter_at ha.2 h' ht']
theorem filter_no {qs : List Bq} {t : ByteArray} (h : t ∉ qs.map (·.1)) : qs.filter (fun q => !decide (q.1 = t)) = qs := by
  rw [List.filter_eq_self]
  intro x hx
  have : x.1 ≠ t := fun e => h (List.mem_map.2 ⟨x, hx, e⟩)
  simpa using this
theorem insq_filter : ∀ {qs : List Bq} {b : Bq}, Asc (qs.map (·.1)) → (insq qs b).filter (fun q => !decide (q.1 = b.1)) = qs.filter (fun q => !decide (q.1 = b.1))
  | [], b, _ => by simp [insq]
  | q :: qs, b, ha => by
    unfold insq
    by_cases c1 : bcmp q.1 b.1 < 0
    · rw [if_pos c1, List.filter_cons, List.filter_cons, insq_filter ha.2]
    · rw [if_neg c1]
      by_cases c2 : bcmp q.1 b.1 = 0
      · rw [if_pos c2]
        have e : q.1 = b.1 := bcmp_eq.1 c2
        rw [List.filter_cons, List.filter_cons]
        simp [e]
      · rw [if_neg c2, List.filter_cons]
        simp
theorem insq_len_mem : ∀ {qs : List Bq} {b : Bq}, Asc (qs.map (·.1)) → b.1 ∈ qs.map (·.1) → (insq qs b).length = qs.length
  | [], b, _, h => by simp at h
  | q :: qs, b, ha, h => by
    unfold insq
    by_cases c1 : bcmp q.1 b.1 < 0
    · rw [if_pos c1]
      rcases List.mem_cons.1 h with e | e
      · exact absurd e.symm (bcmp_ne c1)
      · simp [insq_len_mem ha.2 e]
    · rw [if_neg c1]
      by_cases c2 : bcmp q.1 b.1 = 0
      · rw [if_pos c2]; simp
      · exfalso
        rcases List.mem_cons.1 h with e | e
        · exact c2 (bcmp_eq.2 e.symm)
        · exact c1 (ha.1 _ e)
theorem asc_all {l : List ByteArray} {s : ByteArray} (h : Asc l) (hs : ∀ t ∈ l, t = s) : l = [] ∨ l = [s] := by
  match l, h, hs with
  | [], _, _ => exact .inl rfl
  | [x], _, hs => right; rw [hs x (by simp)]
  | x :: y :: l, h, hs =>
    exfalso
    have h1 := h.1 y (by simp)
    rw [hs x (by simp), hs y (by simp), bcmp_self] at h1
    omega
/-- putting a list over itself -/
theorem insq_self : ∀ {qs : List Bq} {b : Bq}, Asc (qs.map (·.1)) → b ∈ qs → insq qs b = qs
  | [], b, _, h => by simp at h
  | q :: qs, b, ha, h => by
    unfold insq
    rcases List.mem_cons.1 h with e | e
    · subst e
      rw [bcmp_self, if_neg (by omega), if_pos rfl]
    · rw [if_pos (ha.1 _ (List.mem_map.2 ⟨b, e, rfl⟩)), insq_self ha.2 e]
theorem insq_end : ∀ {qs : List Bq} {b : Bq}, (∀ q ∈ qs, bcmp q.1 b.1 < 0) → insq qs b = qs ++ [b]
  | [], b, _ => rfl
  | q :: qs, b, h => by
    unfold insq
    rw [if_pos (h q (by simp)), insq_end (fun x hx => h x (by simp [hx]))]
    rfl
end Go.Proofs.Ytphofjinncbaaaa
namespace Go.Proofs.Ytphofjinncbaaaa
open Go.RowKit
set_option linter.unusedVariables false
set_option linter.unusedSimpArgs false

theorem At.growB {w : World} {p : Addr} {v : Value} (h : At w p v) : ∀ w', KB w.heap.size w.drew w' → w'.cell? p = some v := fun w' g => (g.cell (p := p) h.2 h.2).trans h.1
def atr (ns : List ByteArray) (t : ByteArray) : Int := if atn ns t < ns.length then (atn ns t : Int) else -1
theorem atr_yes {ns : List ByteArray} {t : ByteArray} (h : atn ns t < ns.length) : atr ns t = (atn ns t : Int) := if_pos h
theorem atr_no {ns : List ByteArray} {t : ByteArray} (h : ¬ atn ns t < ns.length) : atr ns t = -1 := if_neg h
theorem NamL.ats {w : World} {A : Option Addr} {n c i : Nat} {ns : List ByteArray} (h : NamL w A n c ns) (hi : i < n) : ∃ b off A1 n1 c1, A = some ⟨b, off, none⟩ ∧ At w ⟨b, off + i * 2, none⟩ (.string (nat_ ns i)) ∧ At w ⟨b, off + i * 2 + 1, none⟩ (.slice A1 n1 c1) := by
  have hl := h.len
  obtain ⟨hs, h1, h2⟩ := h
  have hlh : hs.length = n := by rw [← hl, ← h2, List.length_map]
  have hh : hs[i]? = some (hs[i]'(by omega)) := List.getElem?_eq_getElem (by omega)
  obtain ⟨b, off, e, hb, g0, g1⟩ := h1.at2 hh
  have hn : nat_ ns i = (hs[i]'(by omega)).1 := by
    have h5 : ns[i]? = some (hs[i]'(by omega)).1 := by
      subst h2
      rw [List.getElem?_map, hh]; rfl
    unfold nat_
    rw [h5]; rfl
  exact ⟨b, off, _, _, _, e, by rw [hn]; exact g0, g1⟩
def putc (bs : List Bn) (t : ByteArray) (rs : List Cf) : Int := if goodl bs = true then (if rightc (t, rs) = 0 then (if 64 < (insq (bs.map fq) (t, pn rs)).length then 12 else 0) else rightc (t, rs)) else 3
def putl (bs : List Bn) (t : ByteArray) (rs : List Cf) : List Bq := if putc bs t rs = 0 then insq (bs.map fq) (t, pn rs) else []
section
variable {bs : List Bn} {t : ByteArray} {rs : List Cf}
theorem putc_bad (h : goodl bs = false) : putc bs t rs = 3 := by unfold putc; rw [if_neg (by rw [h]; decide)]
theorem putc_right (h : goodl bs = true) (h2 : rightc (t, rs) ≠ 0) : putc bs t rs = rightc (t, rs) := by unfold putc; rw [if_pos h, if_neg h2]
theorem putc_many (h : goodl bs = true) (h2 : rightc (t, rs) = 0) (h3 : 64 < (insq (bs.map fq) (t, pn rs)).length) : putc bs t rs = 12 := by unfold putc; rw [if_pos h, if_pos h2, if_pos h3]
theorem putc_ok (h : goodl bs = true) (h2 : rightc (t, rs) = 0) (h3 : (insq (bs.map fq) (t, pn rs)).length ≤ 64) : putc bs t rs = 0 := by unfold putc; rw [if_pos h, if_pos h2, if_neg (by omega)]
theorem putl_no (h : putc bs t rs ≠ 0) : putl bs t rs = [] := if_neg h
theorem putl_ok (h : putc bs t rs = 0) : putl bs t rs = insq (bs.map fq) (t, pn rs) := if_pos h
end
def GEP (w : World) (L : Nat) (bs : List Bn) (t : ByteArray) (rs : List Cf) (e : Ending) (w' : World) : Prop :=
  Below w.heap.size w w' ∧ ∃ A n c, e = .returned (.tuple #[.slice A n c, .int .i64 (putc bs t rs)]) ∧ ListO w.heap.size L w' A n c (putl bs t rs)
def GRP (w : World) (L : Nat) (bs : List Bn) (t : ByteArray) (rs : List Cf) (e : Ending) (w' : World) : Prop :=
  Below w.heap.size w w' ∧ ∃ A n c, e = .returned (.tuple #[.slice A n c, .int .i64 (putc bs t rs)]) ∧ ListR w.heap.size L w' A n c (putl bs t rs)
theorem ListR.nil {B L : Nat} {w : World} : ListR B L w none 0 0 [] := ⟨[], RowK.nil, All2.nil⟩
theorem gput_out {B L n c : Nat} {w w' : World} {A : Option Addr} {qs : List Bq} {b : Bq} {e : Ending} (h : GPut B L w A n c qs b e w') (hl : n = qs.length) (hn : n ≤ 64) :
    Below B w w' ∧ (((insq qs b).length ≤ 64 ∧ ∃ A' n' c', e = .returned (.tuple #[.slice A' n' c', .int .i64 0]) ∧ ListO B L w' A' n' c' (insq qs b)) ∨ (64 < (insq qs b).length ∧ e = .returned (.tuple #[.slice none 0 0, .int .i64 12]))) := by
  obtain ⟨i, hp, hb, hc⟩ := h
  have hi := insq_pos qs b i hp.out
  refine ⟨hb, ?_⟩
  rcases hc with ⟨hf, he, hl2⟩ | ⟨hf, h64, he⟩ | ⟨hf, h64, A', c', he, hl2⟩
  · have h1 := hi.1 hf.out
    left
    rw [h1]
    exact ⟨by rw [List.length_set]; omega, A, n, c, he, hl2⟩
  · have h1 := hi.2 hf.out
    right
    refine ⟨?_, he⟩
    rw [h1]
    have := hp.out.1
    simp only [List.length_append, List.length_take, List.length_drop, List.length_singleton]
    omega
  · have h1 := hi.2 hf.out
    left
    rw [h1]
    refine ⟨?_, A', n + 1, c', he, hl2⟩
    have := hp.out.1
    simp only [List.length_append, List.length_take, List.length_drop, List.length_singleton]
    omega
set_option maxHeartbeats 4000000 in
theorem eput_any {L n c n2 c2 : Nat} {A A2 : Option Addr} {bs : List Bn} {t : ByteArray} {rs : List Cf} {w : World} (h : ListI L w (.slice A n c) bs) (h2 : PolyI L w (.slice A2 n2 c2) rs) (hts : t.size ≤ maxLen) (hL1 : 1 ≤ L) (hL : L ≤ 268435456) (hn : n ≤ 1073741824) (hn2 : n2 ≤ 1073741824) :
    Calls Try.prog 13 #[.slice A n c, .string t, .slice A2 n2 c2] w (GEP w L bs t rs) := by
  have H := Lib.hid h
  have H2 := Lib.hid h2
  have HNQ : Hid (n = bs.length) := h.len.1
  have HTS := Lib.hid hts
  have CG := Lib.hid (egood_any h hL1 hL hn)
  clear h h2 hts
  rcases Bool.eq_false_or_eq_true (goodl bs) with hg | hg
  · rw [hg] at CG
    have HG := Lib.hid hg
    by_cases hz : rightc (t, rs) = 0
    · have CR := Lib.hid fun w' (hb : Below w.heap.size w w') => right_any (s := t) (H2.out.below hb) HTS.out hL1 hL hn2
      rw [hz] at CR
      have HZ := Lib.hid hz
      clear hz hg
      have hn64 : n ≤ 64 := by have := (okAt_all HG.out).2; have := HNQ.out; omega
      go_enter Try.func13, Try.ntmps13
      go_wp2_with fail
      refine (CG.out).mono ?_
      rintro e w1 ⟨rfl, hb1⟩
      have x0 := (At.boxc (i := 0) (v := .string t) (t := 80) (b := w1.heap.size) w1 #[.string t, .slice A2 n2 c2] rfl (by simp)).1
      have x1 := (At.boxc (i := 1) (v := .slice A2 n2 c2) (t := 80) (b := w1.heap.size) w1 #[.string t, .slice A2 n2 c2] rfl (by simp)).1
      go_wp2_with fail
      refine (CR.out _ (bt hb1 ((Below.refl _ _).alloc (Nat.le_refl _) (.cells #[.string t, .slice A2 n2 c2] 80)))).mono ?_
      rintro e w2 ⟨rfl, hb2⟩
      clear x0 x1
      have HALL : Hid (∀ b ∈ bs, ∀ r ∈ b.2, 0 < r.2.2) := fun b hb => by
        obtain ⟨k, hk, e⟩ := List.getElem_of_mem hb
        have h1 := good_right HG.out hk
        rw [bnat_of (List.getElem?_eq_getElem hk), e] at h1
        exact fitc_pos (rightc_zero h1).2
      go_wp2_with fail
      have e_f0 := ((At.boxc (i := 0) (v := .string t) (t := 80) (b := w1.heap.size) w1 #[.string t, .slice A2 n2 c2] rfl (by simp)).below hb2).1
      have g_f0 := At.growB ((At.boxc (i := 0) (v := .string t) (t := 80) (b := w1.heap.size) w1 #[.string t, .slice A2 n2 c2] rfl (by simp)).below hb2)
      have e_f1 := ((At.boxc (i := 1) (v := .slice A2 n2 c2) (t := 80) (b := w1.heap.size) w1 #[.string t, .slice A2 n2 c2] rfl (by simp)).below hb2).1
      have g_f1 := At.growB ((At.boxc (i := 1) (v := .slice A2 n2 c2) (t := 80) (b := w1.heap.size) w1 #[.string t, .slice A2 n2 c2] rfl (by simp)).below hb2)
      refine wp_region_fltR (KB (w2).heap.size) (KB.refl _) (KB.trans _) (KB.of_grow _) [(0, 0), (0, 2), (3, 1), (3, 3), (0, 4), (0, 5), (0, 6), (0, 7)] (by kernel_rfl) (by kernel_rfl) ?_
      repeat (refine flt_pas (by rfl) (fun K hK => ?_); go_simp; refine hK _ _ (fun w' hw' => (by first | (go_simp; done) | (go_simp; intro hh; cases hh))) ?_; clear hK K)
      have HBC : Hid (w.heap.size ≤ (World.drew w2).heap.size) := (bt (bt (bt hb1 ((Below.refl _ _).alloc (Nat.le_refl _) (.cells #[.string t, .slice A2 n2 c2] 80))) hb2) (below_drewN _ 1)).size
      (refine flt_callX (by rfl) (fun K hK => ?_); go_simp; refine hK _ _ ?_; clear hK K)
      refine (ecopied_any ((((H.out.below hb1).below ((Below.refl _ _).alloc (Nat.le_refl _) (.cells #[.string t, .slice A2 n2 c2] 80))).below hb2).below (below_drewN _ 1)) HALL.out hL1 hL hn).mono ?_
      rintro e w5 ⟨A5, c5, rfl, lo5, hb5⟩
      refine ⟨_, rfl, KB.of_below hb5, ?_⟩
      (refine flt_norm (fun K hK => ?_); go_simp; refine hK _ ?_; clear hK K)
      (refine flt_callX (by rfl) (fun K hK => ?_); go_simp; refine hK _ _ ?_; clear hK K)
      refine (put_any lo5 (((((H2.out.below hb1).below ((Below.refl _ _).alloc (Nat.le_refl _) (.cells #[.string t, .slice A2 n2 c2] 80))).below hb2).below (below_drewN _ 1)).below hb5) (fitc_pos (rightc_zero HZ.out).2) HTS.out (fun i j h1 h2 h3 => rises_mono (goodl_rises HG.out) t h1 (by rw [List.length_map]; have := HNQ.out; omega) h3) hn64 hL1 hL hn2 hb5.size).mono ?_
      rintro e w6 hg6
      obtain ⟨hb6, hcase⟩ := gput_out hg6 (by rw [List.length_map]; exact HNQ.out) hn64
      have HB5 : Hid (Below w.heap.size w w5) := (bt (bt (bt (bt hb1 ((Below.refl _ _).alloc (Nat.le_refl _) (.cells #[.string t, .slice A2 n2 c2] 80))) hb2) (below_drewN _ 1)) hb5)
      have HB6 : Hid (Below w.heap.size w w6) := HB5.out.trans (hb6.mono HBC.out)
      rcases hcase with ⟨hle, A6, n6, c6, rfl, lo6⟩ | ⟨hgt, rfl⟩
      · have HC : Hid (putc bs t rs = 0) := putc_ok HG.out HZ.out hle
        have HPL : Hid (putl bs t rs = insq (bs.map fq) (t, pn rs)) := putl_ok HC.out
        have HL6 := Lib.hid (lo6.mono HBC.out)
        refine ⟨_, rfl, KB.of_le hb6 (Nat.le_refl _), ?_⟩
        (refine flt_norm (fun K hK => ?_); go_simp; refine hK _ ?_; clear hK K)
        repeat (refine flt_pas (by rfl) (fun K hK => ?_); go_simp; refine hK _ _ (fun w' hw' => (by first | (go_simp; done) | (go_simp; intro hh; cases hh))) ?_; clear hK K)
        refine flt_nil ?_
        clear g_f0 e_f0 g_f1 e_f1
        clear hb6 lo6
        go_wp2
        go_ret2
        exact ⟨HB6.out, A6, n6, c6, by rw [HC.out]; rfl, by rw [HPL.out]; exact HL6.out⟩
      · have HC : Hid (putc bs t rs = 12) := putc_many HG.out HZ.out hgt
        have HPL : Hid (putl bs t rs = []) := putl_no (by rw [HC.out]; decide)
        refine ⟨_, rfl, KB.of_le hb6 (Nat.le_refl _), ?_⟩
        (refine flt_norm (fun K hK => ?_); go_simp; refine hK _ ?_; clear hK K)
        repeat (refine flt_pas (by rfl) (fun K hK => ?_); go_simp; refine hK _ _ (fun w' hw' => (by first | (go_simp; done) | (go_simp; intro hh; cases hh))) ?_; clear hK K)
        refine flt_nil ?_
        clear g_f0 e_f0 g_f1 e_f1
        clear hb6
        go_wp2
        go_ret2
        exact ⟨HB6.out, none, 0, 0, by rw [HC.out]; rfl, by rw [HPL.out]; exact ListO.nil⟩
    · have CR := Lib.hid fun w' (hb : Below w.heap.size w w') => right_any (s := t) (H2.out.below hb) HTS.out hL1 hL hn2
      have HC : Hid (putc bs t rs = rightc (t, rs)) := putc_right hg hz
      have HPL : Hid (putl bs t rs = []) := putl_no (by rw [HC.out]; exact hz)
      have d1 : (rightc (t, rs) == 0) = false := by rw [beq_eq_false_iff_ne]; exact hz
      have d2 : (rightc (t, rs) != 0) = true := by simp [bne, d1]
      clear hz hg
      generalize rightc (t, rs) = z at *
      go_enter Try.func13, Try.ntmps13
      go_wp2_with fail
      refine (CG.out).mono ?_
      rintro e w3 ⟨rfl, hb3⟩
      have x0 := (At.boxc (i := 0) (v := .string t) (t := 80) (b := w3.heap.size) w3 #[.string t, .slice A2 n2 c2] rfl (by simp)).1
      have x1 := (At.boxc (i := 1) (v := .slice A2 n2 c2) (t := 80) (b := w3.heap.size) w3 #[.string t, .slice A2 n2 c2] rfl (by simp)).1
      go_wp2_with fail
      refine (CR.out _ (bt hb3 ((Below.refl _ _).alloc (Nat.le_refl _) (.cells #[.string t, .slice A2 n2 c2] 80)))).mono ?_
      rintro e w4 ⟨rfl, hb4⟩
      clear x0 x1
      have HB := Lib.hid (bt (bt hb3 ((Below.refl _ _).alloc (Nat.le_refl _) (.cells #[.string t, .slice A2 n2 c2] 80))) hb4)
      go_wp2
      go_ret2
      exact ⟨HB.out, none, 0, 0, by rw [HC.out]; rfl, by rw [HPL.out]; exact ListO.nil⟩
  · rw [hg] at CG
    have HC : Hid (putc bs t rs = 3) := putc_bad hg
    have HPL : Hid (putl bs t rs = []) := putl_no (by rw [HC.out]; decide)
    clear hg
    go_enter Try.func13, Try.ntmps13
    go_wp2_with fail
    refine (CG.out).mono ?_
    rintro e w5 ⟨rfl, hb5⟩
    have HB := Lib.hid hb5
    go_wp2
    go_ret2
    exact ⟨HB.out, none, 0, 0, by rw [HC.out]; rfl, by rw [HPL.out]; exact ListO.nil⟩
end Go.Proofs.Ytphofjinncbaaaa
namespace Go.Proofs.Ytphofjinncbaaaa
open Go.RowKit
set_option linter.unusedVariables false
set_option linter.unusedSimpArgs false

def drpl (bs : List Bn) (t : ByteArray) : List Bq := if getc bs t = 0 then (bs.map fq).filter (fun q => !decide (q.1 = t)) else []
theorem drpl_no {bs : List Bn} {t : ByteArray} (h : getc bs t ≠ 0) : drpl bs t = [] := if_neg h
theorem drpl_ok {bs : List Bn} {t : ByteArray} (h : getc bs t = 0) : drpl bs t = (bs.map fq).filter (fun q => !decide (q.1 = t)) := if_pos h
theorem drpl_at {bs : List Bn} {t : ByteArray} (h : getc bs t = 0) : drpl bs t = (bs.map fq).take (atn (bs.map (·.1)) t) ++ (bs.map fq).drop (atn (bs.map (·.1)) t + 1) := by
  obtain ⟨hg, ht, hi⟩ := getc_zero h
  rw [drpl_ok h, filter_at (rises_asc.1 (goodl_rises hg)) (by rw [List.length_map]; exact hi)]
  rw [fq_names]
  exact atn_at _ _ (by rw [List.length_map]; exact hi)
def GED (w : World) (L : Nat) (bs : List Bn) (t : ByteArray) (e : Ending) (w' : World) : Prop :=
  Below w.heap.size w w' ∧ ∃ A n c, e = .returned (.tuple #[.slice A n c, .int .i64 (getc bs t)]) ∧ ListO w.heap.size L w' A n c (drpl bs t)
def GRD (w : World) (L : Nat) (bs : List Bn) (t : ByteArray) (e : Ending) (w' : World) : Prop :=
  Below w.heap.size w w' ∧ ∃ A n c, e = .returned (.tuple #[.slice A n c, .int .i64 (getc bs t)]) ∧ ListR w.heap.size L w' A n c (drpl bs t)
theorem good_pos {bs : List Bn} (h : goodl bs = true) : ∀ b ∈ bs, ∀ r ∈ b.2, 0 < r.2.2 := fun b hb => by
  obtain ⟨k, hk, e⟩ := List.getElem_of_mem hb
  have h1 := good_right h hk
  rw [bnat_of (List.getElem?_eq_getElem hk), e] at h1
  exact fitc_pos (rightc_zero h1).2
set_option maxHeartbeats 4000000 in
theorem edrop_any {L n c : Nat} {A : Option Addr} {bs : List Bn} {t : ByteArray} {w : World} (h : ListI L w (.slice A n c) bs) (hts : t.size ≤ maxLen) (hL1 : 1 ≤ L) (hL : L ≤ 268435456) (hn : n ≤ 1073741824) :
    Calls Try.prog 16 #[.slice A n c, .string t] w (GED w L bs t) := by
  have H := Lib.hid h
  have HNQ : Hid (n = bs.length) := h.len.1
  have CP := Lib.hid (place_any h hts hL1 hL hn)
  clear h hts
  by_cases hz : getc bs t = 0
  · have hg0 := getc_zero hz
    have HG := Lib.hid hg0.1
    have HC := Lib.hid hz
    have HDA := Lib.hid (drpl_at hz)
    rw [getp_yes hz, hz] at CP
    obtain ⟨i, hei⟩ : ∃ i, i = atn (bs.map (·.1)) t := ⟨_, rfl⟩
    rw [← hei] at CP HDA
    have hin : i < n := by have := hg0.2.2; have := HNQ.out; omega
    have hn64 : n ≤ 64 := by have := (okAt_all HG.out).2; have := HNQ.out; omega
    clear hz hg0 hei
    go_enter Try.func16, Try.ntmps16
    go_wp2_with fail
    refine (CP.out).mono ?_
    rintro e w1 ⟨rfl, hb1⟩
    have HBC : Hid (w.heap.size ≤ w1.heap.size) := hb1.size
    go_wp2_with fail
    refine (ecopied_any (H.out.below hb1) (good_pos HG.out) hL1 hL hn).mono ?_
    rintro e w5 ⟨A5, c5, rfl, lo5, hb5⟩
    have HB5 : Hid (Below w.heap.size w w5) := (bt hb1 hb5)
    obtain ⟨hs, k1, k2⟩ := lo5
    obtain ⟨g, rfl, hg1, hg2⟩ := k1.form (by omega)
    have HK := Lib.hid k1
    have HK2 := Lib.hid k2
    have HBG := Lib.hid hg1
    clear k1 k2 hg1 hg2 hb5
    go_wp2_with fail
    refine (del_any HK.out (hbv_one hs) hin hn64).mono ?_
    rintro e w6 ⟨rfl, hr6, hg6⟩
    have HB6 : Hid (Below w.heap.size w w6) := HB5.out.trans ((Below.refl _ _).grown hg6 HB5.out.size (fun g' hg' => by injection hg' with hg'; subst hg'; have := HBG.out; have := HBC.out; omega))
    have HL6 : Hid (ListO w.heap.size L w6 (some ⟨g, 0, none⟩) (n - 1) c5 (drpl bs t)) := by
      show ListO _ _ _ _ _ _ _
      rw [HDA.out]
      refine ListO.mono ⟨hs.take i ++ hs.drop (i + 1), ?_, ((HK2.out.take i).app (HK2.out.drop (i + 1))).imp fun _ _ e => e.grown HK.out hg6⟩ HBC.out
      rw [List.flatMap_append, ← flat2_take hbv hbv_len, ← flat2_drop hbv hbv_len]
      exact hr6
    clear hr6 hg6
    go_wp2
    go_ret2
    exact ⟨HB6.out, _, _, _, by rw [HC.out]; rfl, HL6.out⟩
  · have HDR : Hid (drpl bs t = []) := drpl_no hz
    rw [getp_zero hz] at CP
    have d1 : (getc bs t == 0) = false := by rw [beq_eq_false_iff_ne]; exact hz
    have d2 : (getc bs t != 0) = true := by simp [bne, d1]
    have HE : Hid (∃ z, z = getc bs t) := ⟨_, rfl⟩
    obtain ⟨z, hz2⟩ := HE.out
    have HZ := Lib.hid hz2
    rw [← hz2] at CP d1 d2
    clear hz hz2 HE
    go_enter Try.func16, Try.ntmps16
    go_wp2_with fail
    refine (CP.out).mono ?_
    rintro e w2 ⟨rfl, hb2⟩
    have HB : Hid (Below w.heap.size w w2) := hb2
    go_wp2
    go_ret2
    exact ⟨HB.out, none, 0, 0, by rw [← HZ.out]; rfl, by rw [HDR.out]; exact ListO.nil⟩
section
variable {P : Program}
theorem run_app_empty {T TT : TypeId} {z : Value} {k bytes m c2 : Nat} {a : Addr} {w : World} {A2 : Option Addr} (ty : TypeId) (he : ElemK P TT T z k bytes) (hm : m ≤ 1000) :
    (Builtin.append_ #[TT, TT] ty #[.slice (some a) 0 0, .slice A2 (m + 1) c2]).run P w = (Builtin.append_ #[TT, TT] ty #[.slice none 0 0, .slice A2 (m + 1) c2]).run P w := by
  obtain ⟨⟨hT, hinfo⟩, hzs, hk, hby⟩ := he
  obtain ⟨i, hi, hz, hs, hb⟩ := info_parts hinfo
  have h48' : ¬ (281474976710656 < Builtin.nextslicecap (m + 1) 0 * i.bytes) := by
    have := growslice_fits (need := m + 1) (old := 0) (bytes := i.bytes) (by omega) (by
      calc (m + 1) * i.bytes ≤ 1001 * 64 := Nat.mul_le_mul (by omega) (by omega)
        _ ≤ 140737488355328 := by decide)
    omega
  have h63' : ¬ (9223372036854775807 < (m : Int) + 1) := by omega
  simp [Builtin.append_, run_underlying hT, sizeOf, typeInfo, zeroValue, hi, hz, hs, Builtin.lenOf, h48', h63', Builtin.firstCells, loadCells, loadCellsFrom, Question.forced]
end
/-- the document's list: an empty literal, or a row behind B2 -/
def ListE (B B2 L : Nat) (w : World) (A : Option Addr) (n c : Nat) (qs : List Bq) : Prop := (n = 0 ∧ c = 0 ∧ (∃ a, A = some a) ∧ qs = []) ∨ ListS B B2 L w A n c qs
theorem ListE.below {B B2 L n c : Nat} {w w' : World} {A : Option Addr} {qs : List Bq} (H : ListE B B2 L w A n c qs) (hb : Below w.heap.size w w') : ListE B B2 L w' A n c qs := by
  rcases H with h | h
  · exact .inl h
  · exact .inr (h.below hb)
theorem wpList_appE {B B2 L n c c2 : Nat} {w : World} {A A2 : Option Addr} (h : Hb) {q : Bq} {qs : List Bq} {ops : Array Oper} {rest : List Oper} {o : Oper} {a : Act} {Q : Exit → Act → World → Prop} (hgd : o.guard = none) (s x : Operand)
    (ho : o.op = .call { callee := .builtin .append, args := #[s, x], argTypes := #[32, 32] })
    (hs : a.eval s = .slice A n c) (hx : a.eval x = .slice A2 1 c2) (H : ListE B B2 L w A n c qs) (hr : RdK 2 w A2 1 c2 (hbv h)) (hb : OwnB B L w h q) (hn : n ≤ 1099511627775) (hB2 : B ≤ B2) (hB : B2 ≤ w.heap.size)
    (hk : ∀ A' c' w', ListS B B2 L w' A' (n + 1) c' (qs ++ [q]) → Below B2 w w' → wpList Try.prog ops Q rest (a.put o.dst (.slice A' (n + 1) c')) w') : wpList Try.prog ops Q (o :: rest) a w := by
  rcases H with ⟨rfl, rfl, ⟨a0, rfl⟩, rfl⟩ | H
  · refine wpList_plain hgd fun K hK => ?_
    have hnil : RowK 2 87 B2 w none 0 0 [] := RowK.nil
    obtain ⟨A', c', w', hrun, h2, h3, h4⟩ := run_appK (P := Try.prog) o.type elBindR hnil hr (by intro u hu; simp [hbv] at hu; rcases hu with rfl | rfl <;> rfl) (by omega) (by omega) hB
    have hrun2 := (run_app_empty (m := 0) (a := a0) (c2 := c2) (A2 := A2) (w := w) o.type elBindR (by omega)).trans hrun
    unfold Oper.wp execOp
    simp only [ho, resolve, invoke, builtin, Sem.run_bind, Sem.run_pure, Result.andThen_ok, List.map_toArray, List.map_cons, List.map_nil, hs, hx, hrun2]
    exact hK _ _ (hk A' c' w' ⟨[h], by simpa using h2, by simpa using All2.nil.snoc (hb.grownR (hnil.mono hB2) h4)⟩ h3)
  · exact wpList_appR26 h hgd s x ho hs hx H hr hb hn hB2 hB fun A' c' w' h1 h2 _ => hk A' c' w' h1 h2
end Go.Proofs.Ytphofjinncbaaaa
namespace Go.Proofs.Ytphofjinncbaaaa
open Go.RowKit
set_option linter.unusedVariables false
set_option linter.unusedSimpArgs false

theorem putl_len (bs : List Bn) (t : ByteArray) (rs : List Cf) : (putl bs t rs).length ≤ bs.length + 1 := by
  unfold putl
  split
  · have := (insq_len (bs.map fq) (t, pn rs)).2
    rw [List.length_map] at this
    exact this
  · simp
theorem drpl_len (bs : List Bn) (t : ByteArray) : (drpl bs t).length ≤ bs.length := by
  unfold drpl
  split
  · have := List.length_filter_le (fun q : Bq => !decide (q.1 = t)) (bs.map fq)
    rw [List.length_map] at this
    exact this
  · simp
end Go.Proofs.Ytphofjinncbaaaa
