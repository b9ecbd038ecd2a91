/-
  surdref26.set where only names count. slices.Equal at numbers; qpoly.sameRat; slices.EqualFunc at polynomials; qpoly.both, Same; env.equal. env.Over; surdref26.Over. env.Differ, Same; surdref26.Differ, Same. surdref26.Differ; env.Same, surdref26.Same. env.Same, surdref26.Same; EnvJoins, walked.
-/
import Derived.Test.YtphofjinncbaaaaPutY
namespace Go.Proofs.Ytphofjinncbaaaa
open Go.RowKit
set_option linter.unusedVariables false
set_option linter.unusedSimpArgs false

def OwnN (B L : Nat) (w : World) (h : Hb) (q : Bq) : Prop := h.1 = q.1 ∧ True
def ListN (B L : Nat) (w : World) (A : Option Addr) (n c : Nat) (qs : List Bq) : Prop := ∃ hs, RowK 2 87 B w A n c (hs.flatMap hbv) ∧ All2 (OwnN B L w) hs qs
theorem OwnN.below {B L : Nat} {w w' : World} {h : Hb} {q : Bq} (H : OwnN B L w h q) (hb : Below w.heap.size w w') : OwnN B L w' h q := H
theorem OwnN.grownR {B L : Nat} {w w' : World} {h : Hb} {q : Bq} {vs : List Value} {A2 : Option Addr} {n2 c2 : Nat} (H : OwnN B L w h q) (hr : RowK 2 87 B w A2 n2 c2 vs) (hg : w.grownBy w' (Value.slice A2 n2 c2).ownBlock) : OwnN B L w' h q := H
theorem ListN.below {B L n c : Nat} {w w' : World} {A : Option Addr} {qs : List Bq} (H : ListN B L w A n c qs) (hb : Below w.heap.size w w') : ListN B L w' A n c qs := by
  obtain ⟨hs, h1, h2⟩ := H
  exact ⟨hs, h1.below hb, h2.imp fun _ _ e => e.below hb⟩
theorem ListN.mono {B B' L n c : Nat} {w : World} {A : Option Addr} {qs : List Bq} (H : ListN B L w A n c qs) (hB : B' ≤ B) : ListN B' L w A n c qs := by
  obtain ⟨hs, h1, h2⟩ := H
  exact ⟨hs, h1.mono hB, h2⟩
theorem ListN.len {B L n c : Nat} {w : World} {A : Option Addr} {qs : List Bq} (H : ListN B L w A n c qs) : n = qs.length := by
  obtain ⟨hs, h1, h2⟩ := H
  have := h1.len
  rw [flat2_len hbv hbv_len, h2.1] at this
  omega
theorem ListR.n {B L n c : Nat} {w : World} {A : Option Addr} {qs : List Bq} (H : ListR B L w A n c qs) : ListN B L w A n c qs := by
  obtain ⟨hs, h1, h2⟩ := H
  exact ⟨hs, h1, h2.imp fun _ _ e => ⟨e.1, trivial⟩⟩
def ListNS (B B2 L : Nat) (w : World) (A : Option Addr) (n c : Nat) (qs : List Bq) : Prop := ∃ hs, RowK 2 87 B2 w A n c (hs.flatMap hbv) ∧ All2 (OwnN B L w) hs qs
theorem ListNS.below {B B2 L n c : Nat} {w w' : World} {A : Option Addr} {qs : List Bq} (H : ListNS B B2 L w A n c qs) (hb : Below w.heap.size w w') : ListNS B B2 L w' A n c qs := by
  obtain ⟨hs, h1, h2⟩ := H
  exact ⟨hs, h1.below hb, h2.imp fun _ _ e => e.below hb⟩
theorem ListNS.len {B B2 L n c : Nat} {w : World} {A : Option Addr} {qs : List Bq} (H : ListNS B B2 L w A n c qs) : n = qs.length := by
  obtain ⟨hs, h1, h2⟩ := H
  have := h1.len
  rw [flat2_len hbv hbv_len, h2.1] at this
  omega
/-- append of one binding to the document's list, at the operation -/
theorem wpList_appN26 {B B2 L n c c2 : Nat} {w : World} {A A2 : Option Addr} (h : Hb) {q : Bq} {qs : List Bq} {ops : Array Oper} {rest : List Oper} {o : Oper} {a : Act} {Q : Exit → Act → World → Prop} (hgd : o.guard = none) (s x : Operand)
    (ho : o.op = .call { callee := .builtin .append, args := #[s, x], argTypes := #[32, 32] })
    (hs : a.eval s = .slice A n c) (hx : a.eval x = .slice A2 1 c2) (H : ListNS B B2 L w A n c qs) (hr : RdK 2 w A2 1 c2 (hbv h)) (hb : OwnN B L w h q) (hn : n ≤ 1099511627775) (hB2 : B ≤ B2) (hB : B2 ≤ w.heap.size)
    (hk : ∀ A' c' w', ListNS B B2 L w' A' (n + 1) c' (qs ++ [q]) → Below B2 w w' → w.grownBy w' (Value.slice A n c).ownBlock → wpList Try.prog ops Q rest (a.put o.dst (.slice A' (n + 1) c')) w') : wpList Try.prog ops Q (o :: rest) a w := by
  obtain ⟨hs', h1, h2⟩ := H
  refine wpList_appK hgd s x ho elBindR hs hx h1 hr (by intro u hu; simp [hbv] at hu; rcases hu with rfl | rfl <;> rfl) (by omega) (by omega) hB ?_
  intro A' c' w' ho' hb' hg
  exact hk A' c' w' ⟨hs' ++ [h], by simpa using ho', (h2.imp fun _ _ e => e.grownR (h1.mono hB2) hg).snoc (hb.grownR (h1.mono hB2) hg)⟩ hb' hg
end Go.Proofs.Ytphofjinncbaaaa
namespace Go.Proofs.Ytphofjinncbaaaa
open Go.RowKit
set_option linter.unusedVariables false
set_option linter.unusedSimpArgs false

set_option maxHeartbeats 1000000 in
theorem seqq_any {A A2 : Option Addr} {n c m c2 : Nat} {xs ys : List Nat} {w : World} (h : Rd .u64 w A n c xs) (h' : Rd .u64 w A2 m c2 ys) (hn : n ≤ 1099511627776) :
    Calls Try.prog 119 #[.slice A n c, .slice A2 m c2] w (Quiet (.bool (decide (xs = ys))) w) := by
  have H := Lib.hid h
  have H' := Lib.hid h'
  clear h h'
  by_cases hnm : n = m
  · subst hnm
    have q1 : ((n : Int) != (n : Int)) = false := by simp
    go_enter Try.func119, Try.ntmps119
    go_wp2
    go_loopw [13] (fun i wr => ∃ (k q : Nat), Hid ((∀ j, j < k → nth xs j = nth ys j) ∧ wr = w.drewN q) ∧ k ≤ n ∧ i = .int .i64 k) (fun i _ => n - (intOf i).toNat)
    case atStart => exact ⟨0, 0, ⟨fun j hj => by omega, rfl⟩, Nat.zero_le _, rfl⟩
    case round =>
      obtain ⟨k, q, hI, hk, rfl⟩ := hrel
      obtain ⟨hE, hw⟩ := hI.out
      have HE := Lib.hid hE
      have HW := Lib.hid hw
      have R1 : Hid (Rd .u64 wr A n c xs) := by rw [hw]; exact H.out.drewN q
      have R2 : Hid (Rd .u64 wr A2 n c2 ys) := by rw [hw]; exact H'.out.drewN q
      clear hE hI hw
      by_cases hlt : k < n
      · obtain ⟨b, off, ea, hb, hca⟩ := R1.out.at hlt
        obtain ⟨b2, off2, ea2, hb2, hcb⟩ := R2.out.at hlt
        subst ea ea2
        have i1 : (0 : Int) ≤ (k : Int) := by omega
        have i2 : (k : Int) < (n : Int) := by omega
        have hca' : ∀ w', Grow none wr.drew w' → w'.cell? ⟨b, off + k, none⟩ = some (.int .u64 ((nth xs k : Nat) : Int)) := fun w' h => h.cell hca (by simp)
        have hcb' : ∀ w', Grow none wr.drew w' → w'.cell? ⟨b2, off2 + k, none⟩ = some (.int .u64 ((nth ys k : Nat) : Int)) := fun w' h => h.cell hcb (by simp)
        by_cases hne : nth xs k = nth ys k
        · have hq : (((nth xs k : Nat) : Int) != ((nth ys k : Nat) : Int)) = false := by simp; omega
          have HN := Lib.hid hne
          clear hne
          go_wp2
          refine wp_region_grow none [(true, 0), (true, 1), (true, 2), (true, 3), (true, 4), (true, 5), (true, 6), (true, 7), (true, 8)] (by kernel_rfl) (by kernel_rfl) ?_
          repeat (refine ord_pas (by rfl) (fun K hK => ?_); go_simp; refine hK _ _ (fun w' hw' => (by first | (go_simp; done) | (go_simp; intro hh; cases hh))) ?_; clear hK K)
          refine ord_nil ?_
          clear hca' hcb'
          go_wp2
          go_roundw
          case rel =>
            refine ⟨k + 1, q + 1, ⟨fun j hj => ?_, by rw [HW.out]; rfl⟩, by omega, by go_num⟩
            by_cases hjk : j = k
            · subst hjk; exact HN.out
            · exact HE.out j (by omega)
          case measure => simp [intOf]; omega
        · have hq : (((nth xs k : Nat) : Int) != ((nth ys k : Nat) : Int)) = true := by simp; omega
          have HN := Lib.hid hne
          clear hne
          go_wp2
          refine wp_region_grow none [(true, 0), (true, 1), (true, 2), (true, 3), (true, 4), (true, 5), (true, 6), (true, 7), (true, 8)] (by kernel_rfl) (by kernel_rfl) ?_
          repeat (refine ord_pas (by rfl) (fun K hK => ?_); go_simp; refine hK _ _ (fun w' hw' => (by first | (go_simp; done) | (go_simp; intro hh; cases hh))) ?_; clear hK K)
          refine ord_nil ?_
          clear hca' hcb'
          go_wp2
          go_ret
          refine ⟨?_, q + 1, by rw [HW.out]; rfl⟩
          have : xs ≠ ys := fun e => HN.out (by rw [e])
          simp [this]
      · obtain rfl : k = n := by omega
        go_wp2
        go_ret
        refine ⟨?_, q, HW.out⟩
        have : xs = ys := eq_of_nth (by rw [H.out.len, H'.out.len]) (fun i hi => HE.out i (by rw [H.out.len] at hi; exact hi))
        simp [this]
  · have q1 : ((n : Int) != (m : Int)) = true := by simp; omega
    have HM := Lib.hid hnm
    clear hnm
    go_enter Try.func119, Try.ntmps119
    go_wp2
    go_ret
    refine ⟨?_, 0, rfl⟩
    have : xs ≠ ys := fun e => HM.out (by rw [← H.out.len, ← H'.out.len, e])
    simp [this]
theorem seqd_any {A A2 : Option Addr} {n c m c2 : Nat} {xs ys : List Nat} {d : Bool} {w : World} (h : Rd .u64 w A n c xs) (h' : Rd .u64 w A2 m c2 ys) (hd : decide (xs = ys) = d) (hn : n ≤ 1099511627776) :
    Calls Try.prog 119 #[.slice A n c, .slice A2 m c2] w (Keeps (.bool d) w) :=
  (seqq_any h h' hn).mono fun _ _ ⟨he, q, hq⟩ => ⟨by rw [he, hd], by rw [hq]; exact below_drewN _ _⟩
set_option maxHeartbeats 1000000 in
theorem qsameRat_any {A1 A2 B1 B2 : Option Addr} {n1 c1 n2 c2 m1 d1 m2 d2 : Nat} {s t : Bool} {q q2 : Cn} {w : World} (hs : Hid (s = decide (q.1 < 0))) (ht : Hid (t = decide (q2.1 < 0))) (h1 : Rd .u64 w A1 n1 c1 (dg W q.1.natAbs)) (h2 : Rd .u64 w A2 n2 c2 (dg W q.2)) (h3 : Rd .u64 w B1 m1 d1 (dg W q2.1.natAbs)) (h4 : Rd .u64 w B2 m2 d2 (dg W q2.2)) (hn1 : n1 ≤ 1099511627776) (hn2 : n2 ≤ 1099511627776) :
    Calls Try.prog 106 #[.agg #[.bool s, .slice A1 n1 c1, .slice A2 n2 c2], .agg #[.bool t, .slice B1 m1 d1, .slice B2 m2 d2]] w (Keeps (.bool (decide (q = q2))) w) := by
  have H1 := Lib.hid h1
  have H2 := Lib.hid h2
  have H3 := Lib.hid h3
  have H4 := Lib.hid h4
  clear h1 h2 h3 h4
  go_enter Try.func106, Try.ntmps106
  have e0 := ((At.boxc (i := 0) (v := .bool s) (t := 78) (b := w.heap.size) w #[.bool s, .slice A1 n1 c1, .slice A2 n2 c2] rfl (by simp)).below ((Below.refl _ _).alloc (Nat.le_refl _) (.cells #[.bool t, .slice B1 m1 d1, .slice B2 m2 d2] 78))).1
  have e1 := ((At.boxc (i := 1) (v := .slice A1 n1 c1) (t := 78) (b := w.heap.size) w #[.bool s, .slice A1 n1 c1, .slice A2 n2 c2] rfl (by simp)).below ((Below.refl _ _).alloc (Nat.le_refl _) (.cells #[.bool t, .slice B1 m1 d1, .slice B2 m2 d2] 78))).1
  have e2 := (At.boxc (i := 0) (v := .bool t) (t := 78) (b := w.heap.size + 1) (World.alloc w (.cells #[.bool s, .slice A1 n1 c1, .slice A2 n2 c2] 78)) #[.bool t, .slice B1 m1 d1, .slice B2 m2 d2] rfl (by simp)).1
  have e3 := (At.boxc (i := 1) (v := .slice B1 m1 d1) (t := 78) (b := w.heap.size + 1) (World.alloc w (.cells #[.bool s, .slice A1 n1 c1, .slice A2 n2 c2] 78)) #[.bool t, .slice B1 m1 d1, .slice B2 m2 d2] rfl (by simp)).1
  by_cases hst : s = t
  · have q0 : (s == t) = true := by simp [hst]
    obtain ⟨d, hd⟩ : ∃ d, decide (dg W q.1.natAbs = dg W q2.1.natAbs) = d := ⟨_, rfl⟩
    have HD := Lib.hid hd
    have HST := Lib.hid hst
    clear hd hst
    go_wp2_with fail
    refine (seqd_any ((H1.out.below ((Below.refl _ _).alloc (Nat.le_refl _) (.cells #[.bool s, .slice A1 n1 c1, .slice A2 n2 c2] 78))).below ((Below.refl _ _).alloc (Nat.le_refl _) (.cells #[.bool t, .slice B1 m1 d1, .slice B2 m2 d2] 78))) ((H3.out.below ((Below.refl _ _).alloc (Nat.le_refl _) (.cells #[.bool s, .slice A1 n1 c1, .slice A2 n2 c2] 78))).below ((Below.refl _ _).alloc (Nat.le_refl _) (.cells #[.bool t, .slice B1 m1 d1, .slice B2 m2 d2] 78))) HD.out hn1).mono ?_
    rintro e w1 ⟨rfl, hb1⟩
    clear e0 e1 e2 e3
    cases d
    · have HF : Hid (decide (q = q2) = false) := by
        show _ = _
        rw [decide_eq_false_iff_not, canq_eq]
        rintro ⟨⟨_, h⟩, _⟩
        exact of_decide_eq_false HD.out h
      have HB : Hid (Below w.heap.size w w1) := (bt (bt ((Below.refl _ _).alloc (Nat.le_refl _) (.cells #[.bool s, .slice A1 n1 c1, .slice A2 n2 c2] 78)) ((Below.refl _ _).alloc (Nat.le_refl _) (.cells #[.bool t, .slice B1 m1 d1, .slice B2 m2 d2] 78))) hb1)
      go_wp2
      go_ret
      exact ⟨by rw [HF.out]; rfl, HB.out⟩
    · obtain ⟨d2', hd2⟩ : ∃ d, decide (dg W q.2 = dg W q2.2) = d := ⟨_, rfl⟩
      have HF : Hid (decide (q = q2) = d2') := by
        rw [← hd2]
        show _ = _
        rw [decide_eq_decide, canq_eq]
        have h5 := of_decide_eq_true HD.out
        have h6 := HST.out
        rw [hs.out, ht.out] at h6
        exact ⟨fun h => h.2, fun h => ⟨⟨h6, h5⟩, h⟩⟩
      have HD2 := Lib.hid hd2
      clear hd2
      have e4 := (((At.boxc (i := 2) (v := .slice A2 n2 c2) (t := 78) (b := w.heap.size) w #[.bool s, .slice A1 n1 c1, .slice A2 n2 c2] rfl (by simp)).below ((Below.refl _ _).alloc (Nat.le_refl _) (.cells #[.bool t, .slice B1 m1 d1, .slice B2 m2 d2] 78))).below hb1).1
      have e5 := ((At.boxc (i := 2) (v := .slice B2 m2 d2) (t := 78) (b := w.heap.size + 1) (World.alloc w (.cells #[.bool s, .slice A1 n1 c1, .slice A2 n2 c2] 78)) #[.bool t, .slice B1 m1 d1, .slice B2 m2 d2] rfl (by simp)).below hb1).1
      go_wp2_with fail
      refine (seqd_any (((H2.out.below ((Below.refl _ _).alloc (Nat.le_refl _) (.cells #[.bool s, .slice A1 n1 c1, .slice A2 n2 c2] 78))).below ((Below.refl _ _).alloc (Nat.le_refl _) (.cells #[.bool t, .slice B1 m1 d1, .slice B2 m2 d2] 78))).below hb1) (((H4.out.below ((Below.refl _ _).alloc (Nat.le_refl _) (.cells #[.bool s, .slice A1 n1 c1, .slice A2 n2 c2] 78))).below ((Below.refl _ _).alloc (Nat.le_refl _) (.cells #[.bool t, .slice B1 m1 d1, .slice B2 m2 d2] 78))).below hb1) HD2.out hn2).mono ?_
      rintro e w2 ⟨rfl, hb2⟩
      have HB : Hid (Below w.heap.size w w2) := (bt (bt (bt ((Below.refl _ _).alloc (Nat.le_refl _) (.cells #[.bool s, .slice A1 n1 c1, .slice A2 n2 c2] 78)) ((Below.refl _ _).alloc (Nat.le_refl _) (.cells #[.bool t, .slice B1 m1 d1, .slice B2 m2 d2] 78))) hb1) hb2)
      clear e4 e5
      go_wp2
      go_ret
      exact ⟨by rw [HF.out]; rfl, HB.out⟩
  · have q0 : (s == t) = false := by simp [hst]
    have HF : Hid (decide (q = q2) = false) := by
      show _ = _
      rw [decide_eq_false_iff_not]
      rintro rfl
      exact hst (hs.out.trans ht.out.symm)
    clear hst
    have HB : Hid (Below w.heap.size w (World.alloc (World.alloc w (.cells #[.bool s, .slice A1 n1 c1, .slice A2 n2 c2] 78)) (.cells #[.bool t, .slice B1 m1 d1, .slice B2 m2 d2] 78))) := (bt ((Below.refl _ _).alloc (Nat.le_refl _) (.cells #[.bool s, .slice A1 n1 c1, .slice A2 n2 c2] 78)) ((Below.refl _ _).alloc (Nat.le_refl _) (.cells #[.bool t, .slice B1 m1 d1, .slice B2 m2 d2] 78)))
    go_wp2
    go_ret
    exact ⟨by rw [HF.out]; rfl, HB.out⟩
set_option maxHeartbeats 4000000 in
theorem eqf_any {A A2 : Option Addr} {n c n2 c2 L L2 : Nat} {qs qs2 : List Cn} {w : World} (h : PolyC L w (.slice A n c) qs) (h' : PolyC L2 w (.slice A2 n2 c2) qs2) (hL : L ≤ 1099511627776) (hn : n ≤ 1073741824) :
    Calls Try.prog 105 #[.slice A n c, .slice A2 n2 c2, .func (.func 106) #[] #[]] w (Keeps (.bool (decide (qs = qs2))) w) := by
  have H := Lib.hid h
  have H2 := Lib.hid h'
  have HN1 : Hid (n = qs.length) := by obtain ⟨_, _, _, hs, e, h1, h2, h3⟩ := h; injection e with _ e2 _; show _ = _; rw [e2]; exact h2
  have HN2 : Hid (n2 = qs2.length) := by obtain ⟨_, _, _, hs, e, h1, h2, h3⟩ := h'; injection e with _ e2 _; show _ = _; rw [e2]; exact h2
  clear h h'
  by_cases hnn : n = n2
  · subst hnn
    go_enter Try.func105, Try.ntmps105
    go_wp2
    go_loopw [17] (fun kv wr => ∃ (i : Nat), Hid (Below w.heap.size w wr ∧ qs.take i = qs2.take i) ∧ i ≤ n ∧ kv = .int .i64 (i : Int)) (fun kv _ => n - (intOf kv).toNat)
    case atStart => exact ⟨0, ⟨Below.refl _ _, by simp⟩, Nat.zero_le _, rfl⟩
    case round =>
      obtain ⟨i, hI, hi, rfl⟩ := hrel
      by_cases hlt : i < n
      · obtain ⟨b, off, s, A1, n1, c1, A3, n3, c3, q, e, hb, eq, hs, x0, x1, x2, ⟨k1, k2⟩, k3, k4⟩ := (H.out.below hI.out.1).at (i := i) (by have := HN1.out; omega)
        have HBA := Lib.hid (belowA wr (.cells #[.bool s, .slice A1 n1 c1, .slice A3 n3 c3] 78))
        obtain ⟨b', off', t, B1, m1, d1, B3, m3, d3, q', e', hb', eq', hs', y0, y1, y2, ⟨l1, l2⟩, l3, l4⟩ := ((H2.out.below hI.out.1).below HBA.out).at (i := i) (by have := HN2.out; omega)
        subst e e'
        have HQ := Lib.hid eq
        have HQ' := Lib.hid eq'
        clear eq eq'
        have i1 : (0 : Int) ≤ (i : Int) := by omega
        have i2 : (i : Int) < (n : Int) := by omega
        have C := Lib.hid (qsameRat_any (w := World.alloc (World.alloc wr (.cells #[.bool s, .slice A1 n1 c1, .slice A3 n3 c3] 78)) (.cells #[.bool t, .slice B1 m1 d1, .slice B3 m3 d3] 78)) hs hs' ((k1.below (belowA _ _)).below (belowA _ _)) ((k3.below (belowA _ _)).below (belowA _ _)) (l1.below (belowA _ _)) (l3.below (belowA _ _)) (by omega) (by omega))
        have HBB : Hid (Below w.heap.size w (World.alloc (World.alloc wr (.cells #[.bool s, .slice A1 n1 c1, .slice A3 n3 c3] 78)) (.cells #[.bool t, .slice B1 m1 d1, .slice B3 m3 d3] 78))) := bt (bt hI.out.1 (belowA _ _)) (belowA _ _)
        clear k1 k2 k3 k4 l1 l2 l3 l4 hs hs'
        obtain ⟨d, hd⟩ : ∃ d, decide (q = q') = d := ⟨_, rfl⟩
        rw [hd] at C
        have HD := Lib.hid hd
        clear hd
        go_wp2_with fail
        refine C.out.mono ?_
        rintro e w5 ⟨rfl, hb5⟩
        have HB := Lib.hid (bt HBB.out hb5)
        clear x0 x1 x2 y0 y1 y2 hb5 C
        cases d
        · have HF : Hid (decide (qs = qs2) = false) := by
            show _ = _
            rw [decide_eq_false_iff_not]
            rintro rfl
            have h5 := HQ.out.symm.trans HQ'.out
            injection h5 with h5
            have h6 := HD.out
            rw [decide_eq_false_iff_not] at h6
            exact h6 h5
          clear hI
          go_wp2
          go_ret
          exact ⟨by rw [HF.out]; rfl, HB.out⟩
        · have HN : Hid (Below w.heap.size w w5 ∧ qs.take (i + 1) = qs2.take (i + 1)) := ⟨HB.out, take_eq_snoc HQ.out HQ'.out hI.out.2 (of_decide_eq_true HD.out)⟩
          clear hI
          go_wp2
          go_roundw
          case rel => exact ⟨i + 1, HN, by omega, by go_num⟩
          case measure => simp [intOf]; omega
      · obtain rfl : i = n := by omega
        have HT : Hid (decide (qs = qs2) = true ∧ Below w.heap.size w wr) := by
          refine ⟨?_, hI.out.1⟩
          have h5 := hI.out.2
          rw [List.take_of_length_le (by have := HN1.out; omega), List.take_of_length_le (by have := HN2.out; omega)] at h5
          simp [h5]
        clear hI
        go_wp2
        go_ret
        exact ⟨by rw [HT.out.1]; rfl, HT.out.2⟩
  · have HF : Hid (decide (qs = qs2) = false) := by
      show _ = _
      rw [decide_eq_false_iff_not]
      rintro rfl
      have := HN1.out
      have := HN2.out
      omega
    have d1 : ((n : Int) == (n2 : Int)) = false := by rw [beq_eq_false_iff_ne]; omega
    have d2 : ((n : Int) != (n2 : Int)) = true := by simp [bne, d1]
    go_enter Try.func105, Try.ntmps105
    go_wp2
    go_ret
    exact ⟨by rw [HF.out]; rfl, Below.refl _ _⟩
/-- qpoly.Norm of what has denominators -/
theorem qpn_any {A : Option Addr} {n c L : Nat} {rs : List Cf} {w : World} (h : PolyI L w (.slice A n c) rs) (hp : ∀ r ∈ rs, 0 < r.2.2) (hL1 : 1 ≤ L) (hL : L ≤ 268435456) (hn : n ≤ 1073741824) :
    Calls Try.prog 95 #[.slice A n c] w (fun e w' => ∃ A' n' c', e = .returned (.tuple #[.slice A' n' c', .int .i64 0]) ∧ PolyO w.heap.size L w' (.slice A' n' c') (pn rs) ∧ n' ≤ 1073741824 ∧ Below w.heap.size w w') := by
  have hl : n = rs.length := h.len
  refine (qpnorm_any h hL1 hL hn).mono fun e w' hg => ?_
  rcases hg with ⟨v, rfl, hall, hpo, hbn⟩ | ⟨rfl, hz, hbn⟩
  · obtain ⟨A2, n2, c2, hs0, rfl, hk1, hk2, hk3⟩ := id hpo
    exact ⟨A2, n2, c2, rfl, hpo, by have h1 := hpo.len.1; have h3 := pn_len rs; omega, hbn⟩
  · obtain ⟨r, h1, h2⟩ := hz.out
    have := hp r h1
    omega
set_option maxHeartbeats 1000000 in
theorem qboth_any {A A2 : Option Addr} {n c n2 c2 L : Nat} {rs rs2 : List Cf} {w : World} (h : PolyI L w (.slice A n c) rs) (hp : ∀ r ∈ rs, 0 < r.2.2) (h2 : PolyI L w (.slice A2 n2 c2) rs2) (hp2 : ∀ r ∈ rs2, 0 < r.2.2) (hL1 : 1 ≤ L) (hL : L ≤ 268435456) (hn : n ≤ 1073741824) (hn2 : n2 ≤ 1073741824) :
    Calls Try.prog 104 #[.slice A n c, .slice A2 n2 c2] w (fun e w' => ∃ A3 n3 c3 A4 n4 c4, e = .returned (.tuple #[.slice A3 n3 c3, .slice A4 n4 c4, .int .i64 0]) ∧ PolyC L w' (.slice A3 n3 c3) (pn rs) ∧ PolyC L w' (.slice A4 n4 c4) (pn rs2) ∧ n3 ≤ 1073741824 ∧ Below w.heap.size w w') := by
  have H := Lib.hid h
  have H2 := Lib.hid h2
  have HP := Lib.hid hp
  have HP2 := Lib.hid hp2
  clear h h2 hp hp2
  go_enter Try.func104, Try.ntmps104
  go_wp2_with fail
  refine (qpn_any H.out HP.out hL1 hL hn).mono ?_
  rintro e w1 ⟨A3, n3, c3, rfl, hp3, hn3, hb1⟩
  go_wp2_with fail
  refine (qpn_any (H2.out.below hb1) HP2.out hL1 hL hn2).mono ?_
  rintro e w2 ⟨A4, n4, c4, rfl, hp4, hn4, hb2⟩
  have HR := Lib.hid (And.intro (hp3.c.below hb2) (And.intro hp4.c (bt hb1 hb2)))
  clear hp3 hp4 hb1 hb2
  go_wp2
  go_ret3
  exact ⟨A3, n3, c3, A4, n4, c4, rfl, HR.out.1, HR.out.2.1, hn3, HR.out.2.2⟩
set_option maxHeartbeats 1000000 in
theorem qsame_any {A A2 : Option Addr} {n c n2 c2 L : Nat} {rs rs2 : List Cf} {w : World} (h : PolyI L w (.slice A n c) rs) (hp : ∀ r ∈ rs, 0 < r.2.2) (h2 : PolyI L w (.slice A2 n2 c2) rs2) (hp2 : ∀ r ∈ rs2, 0 < r.2.2) (hL1 : 1 ≤ L) (hL : L ≤ 268435456) (hn : n ≤ 1073741824) (hn2 : n2 ≤ 1073741824) :
    Calls Try.prog 83 #[.slice A n c, .slice A2 n2 c2] w (Keeps (.tuple #[.bool (decide (pn rs = pn rs2)), .int .i64 0]) w) := by
  have C := Lib.hid (qboth_any h hp h2 hp2 hL1 hL hn hn2)
  clear h h2 hp hp2
  obtain ⟨d, hd⟩ : ∃ d, decide (pn rs = pn rs2) = d := ⟨_, rfl⟩
  rw [hd]
  have HD := Lib.hid hd
  clear hd
  go_enter Try.func83, Try.ntmps83
  go_wp2_with fail
  refine C.out.mono ?_
  rintro e w1 ⟨A3, n3, c3, A4, n4, c4, rfl, a, b, hn3, hb1⟩
  have C2 := Lib.hid (eqf_any a b (by omega) hn3)
  have HB1 := Lib.hid hb1
  rw [HD.out] at C2
  clear a b hb1 C
  go_wp2_with fail
  refine C2.out.mono ?_
  rintro e w2 ⟨rfl, hb2⟩
  have HB := Lib.hid (bt HB1.out hb2)
  clear hb2
  go_wp2
  go_ret2
  exact ⟨rfl, HB.out⟩
theorem equal_any {A A2 : Option Addr} {n c n2 c2 L : Nat} {rs rs2 : List Cf} {w : World} (h : PolyI L w (.slice A n c) rs) (hp : ∀ r ∈ rs, 0 < r.2.2) (h2 : PolyI L w (.slice A2 n2 c2) rs2) (hp2 : ∀ r ∈ rs2, 0 < r.2.2) (hL1 : 1 ≤ L) (hL : L ≤ 268435456) (hn : n ≤ 1073741824) (hn2 : n2 ≤ 1073741824) :
    Calls Try.prog 47 #[.slice A n c, .slice A2 n2 c2] w (Keeps (.bool (decide (pn rs = pn rs2))) w) := by
  have C := Lib.hid (qsame_any h hp h2 hp2 hL1 hL hn hn2)
  clear h h2 hp hp2
  obtain ⟨d, hd⟩ : ∃ d, decide (pn rs = pn rs2) = d := ⟨_, rfl⟩
  rw [hd] at C ⊢
  clear hd
  go_enter Try.func47, Try.ntmps47
  go_wp2_with fail
  refine C.out.mono ?_
  rintro e w1 ⟨rfl, hb1⟩
  have HB := Lib.hid hb1
  clear hb1
  go_wp2
  go_ret
  exact ⟨by simp, HB.out⟩
end Go.Proofs.Ytphofjinncbaaaa
namespace Go.Proofs.Ytphofjinncbaaaa
open Go.RowKit
set_option linter.unusedVariables false
set_option linter.unusedSimpArgs false

theorem ofqa_snoc {acc : List Bq} {bs : List Bn} {i : Nat} {b : Bn} (h : bs[i]? = some b) : ofq acc (bs.take (i + 1)) = insq (ofq acc (bs.take i)) (b.1, pn b.2) := by
  unfold ofq
  rw [take_snoc h, List.foldl_append]
  rfl
theorem ofqa_take (acc : List Bq) (bs : List Bn) (i : Nat) : (ofq acc (bs.take i)).length ≤ (ofq acc bs).length := by
  have h := ofq_len (bs.drop i) (ofq acc (bs.take i))
  have e : ofq (ofq acc (bs.take i)) (bs.drop i) = ofq acc bs := by
    unfold ofq
    rw [← List.foldl_append, List.take_append_drop]
  rwa [e] at h
def both2 (a b : List Bn) : Prop := goodl a = true ∧ goodl b = true
def ovc (a b : List Bn) : Int := if goodl a = true then (if goodl b = true then (if 64 < (ofq (a.map fq) b).length then 12 else 0) else 3) else 3
def ovq (a b : List Bn) : List Bq := if ovc a b = 0 then ofq (a.map fq) b else []
section
variable {a b : List Bn}
theorem ovc_a (h : goodl a = false) : ovc a b = 3 := by unfold ovc; rw [if_neg (by rw [h]; decide)]
theorem ovc_b (h : goodl a = true) (h2 : goodl b = false) : ovc a b = 3 := by unfold ovc; rw [if_pos h, if_neg (by rw [h2]; decide)]
theorem ovc_many (h : goodl a = true) (h2 : goodl b = true) (h3 : 64 < (ofq (a.map fq) b).length) : ovc a b = 12 := by unfold ovc; rw [if_pos h, if_pos h2, if_pos h3]
theorem ovc_ok (h : goodl a = true) (h2 : goodl b = true) (h3 : (ofq (a.map fq) b).length ≤ 64) : ovc a b = 0 := by unfold ovc; rw [if_pos h, if_pos h2, if_neg (by omega)]
theorem ovq_no (h : ovc a b ≠ 0) : ovq a b = [] := if_neg h
theorem ovq_ok (h : ovc a b = 0) : ovq a b = ofq (a.map fq) b := if_pos h
theorem good_le (h : goodl a = true) : a.length ≤ 64 := (okAt_all h).2
theorem good_at0 {i : Nat} {r : Bn} (h : goodl a = true) (he : a[i]? = some r) : rightc r = 0 := by
  have h1 := good_right h (List.getElem?_eq_some_iff.1 he).1
  rwa [bnat_of he] at h1
end
def GEO (w : World) (L : Nat) (a b : List Bn) (e : Ending) (w' : World) : Prop :=
  Below w.heap.size w w' ∧ ∃ A n c, e = .returned (.tuple #[.slice A n c, .int .i64 (ovc a b)]) ∧ ListO w.heap.size L w' A n c (ovq a b)
def GRO (w : World) (L : Nat) (a b : List Bn) (e : Ending) (w' : World) : Prop :=
  Below w.heap.size w w' ∧ ∃ A n c, e = .returned (.tuple #[.slice A n c, .int .i64 (ovc a b)]) ∧ ListR w.heap.size L w' A n c (ovq a b)
set_option maxHeartbeats 8000000 in
theorem eover_any {L n c n2 c2 : Nat} {A A2 : Option Addr} {xs bs : List Bn} {w : World} (h : ListI L w (.slice A n c) xs) (h2 : ListI L w (.slice A2 n2 c2) bs) (hL1 : 1 ≤ L) (hL : L ≤ 268435456) (hn : n ≤ 1073741824) (hn2 : n2 ≤ 1073741824) :
    Calls Try.prog 9 #[.slice A n c, .slice A2 n2 c2] w (GEO w L xs bs) := by
  have H := Lib.hid h
  have H2 := Lib.hid h2
  have HN1 : Hid (n = xs.length) := h.len.1
  have HN2 : Hid (n2 = bs.length) := h2.len.1
  have CA := Lib.hid (egood_any h hL1 hL hn)
  have CB := Lib.hid fun w' (hb : Below w.heap.size w w') => egood_any (h2.below hb) hL1 hL hn2
  clear h h2
  rcases Bool.eq_false_or_eq_true (goodl xs) with hg | hg
  · rw [hg] at CA
    have HGA := Lib.hid hg
    clear hg
    rcases Bool.eq_false_or_eq_true (goodl bs) with hg | hg
    · rw [hg] at CB
      have HGB := Lib.hid hg
      clear hg
      go_enter Try.func9, Try.ntmps9
      go_wp2_with fail
      refine (CA.out).mono ?_
      rintro e w1 ⟨rfl, hb1⟩
      go_wp2_with fail
      refine (CB.out _ hb1).mono ?_
      rintro e w2 ⟨rfl, hb2⟩
      have HBC : Hid (w.heap.size ≤ w2.heap.size) := (bt hb1 hb2).size
      go_wp2_with fail
      refine (ecopied_any ((H.out.below hb1).below hb2) (good_pos HGA.out) hL1 hL hn).mono ?_
      rintro e w5 ⟨A5, c5, rfl, lo5, hb5⟩
      have HL5 := Lib.hid (lo5.mono HBC.out)
      have HB5 : Hid (Below w.heap.size w w5) := (bt (bt hb1 hb2) hb5)
      clear lo5 hb5
      go_wp2
      go_loopw [6, 22] (fun ov kv wr => ∃ (j m : Nat) (A' : Option Addr) (c' : Nat), Hid (Below w.heap.size w wr ∧ ListO w.heap.size L wr A' m c' (ofq (xs.map fq) (bs.take j))) ∧ j ≤ n2 ∧ m ≤ 64 ∧ ov = .slice A' m c' ∧ kv = .int .i64 (j : Int)) (fun _ kv _ => n2 - (intOf kv).toNat)
      case atStart => exact ⟨0, n, A5, c5, ⟨HB5.out, by simpa [ofq] using HL5.out⟩, Nat.zero_le _, by have := good_le HGA.out; have := HN1.out; omega, rfl, rfl⟩
      case round =>
        obtain ⟨j, m, A', c', hI, hj, hm, rfl, rfl⟩ := hrel
        by_cases hlt2 : j < n2
        · obtain ⟨b, off, A1, n1, c1, r, e, hb, eq, h0, h1, h3, h4, h5⟩ := (H2.out.below hI.out.1).at (i := j) (by have := HN2.out; omega)
          have HQ := Lib.hid eq
          have HP := Lib.hid h3
          have HS := Lib.hid h4
          clear eq h3 h4
          subst e
          have i1 : (0 : Int) ≤ (j : Int) := by omega
          have i2 : (j : Int) < (n2 : Int) := by omega
          have x0 := h0.1
          have x1 := h1.1
          have hr0 : rightc r = 0 := good_at0 HGB.out HQ.out
          have HRI : Hid (Rises (ofq (xs.map fq) (bs.take j))) := ofq_rises _ _ (goodl_rises HGA.out)
          have HML : Hid (m = (ofq (xs.map fq) (bs.take j)).length) := hI.out.2.len
          have C := Lib.hid (put_any (B := w.heap.size) (t := r.1) (w := World.alloc wr (.cells #[.string r.1, .slice A1 n1 c1] 80)) (hI.out.2.below (belowA _ _)) (HP.out.below (belowA _ _)) (fitc_pos (rightc_zero hr0).2) HS.out (fun a b h1 h2 h3 => rises_mono HRI.out r.1 h1 (by have := HML.out; omega) h3) hm hL1 hL (by omega) (by have := hI.out.1.size; simp; omega))
          have HBA : Hid (Below w.heap.size w (World.alloc wr (.cells #[.string r.1, .slice A1 n1 c1] 80))) := bt hI.out.1 (belowA _ _)
          have HSN : Hid (ofq (xs.map fq) (bs.take (j + 1)) = insq (ofq (xs.map fq) (bs.take j)) (r.1, pn r.2)) := ofqa_snoc HQ.out
          clear h0 h1 hr0 hI
          go_wp2_with fail
          refine C.out.mono ?_
          rintro e w1 hgp
          obtain ⟨hb1, hcase⟩ := gput_out hgp HML.out hm
          have HB : Hid (Below w.heap.size w w1) := HBA.out.trans hb1
          clear hb1 x0 x1 C hgp
          rcases hcase with ⟨hle, A4, n4, c4, rfl, hl⟩ | ⟨hgt, rfl⟩
          · have HN : Hid (Below w.heap.size w w1 ∧ ListO w.heap.size L w1 A4 n4 c4 (ofq (xs.map fq) (bs.take (j + 1)))) := ⟨HB.out, by rw [HSN.out]; exact hl⟩
            have hn4 : n4 ≤ 64 := by rw [hl.len]; exact hle
            clear hl hle
            go_wp2
            go_roundw
            case rel => exact ⟨j + 1, n4, A4, c4, HN, by omega, hn4, rfl, by go_num⟩
            case measure => simp [intOf]; omega
          · have HC : Hid (ovc xs bs = 12) := ovc_many HGA.out HGB.out (by
              have h6 := ofqa_take (xs.map fq) bs (j + 1)
              rw [HSN.out] at h6
              omega)
            have HPL : Hid (ovq xs bs = []) := ovq_no (by rw [HC.out]; decide)
            clear hgt
            go_wp2
            go_ret2
            exact ⟨HB.out, none, 0, 0, by rw [HC.out]; rfl, by rw [HPL.out]; exact ListO.nil⟩
        · obtain rfl : j = n2 := by omega
          have hfl : ListO w.heap.size L wr A' m c' (ofq (xs.map fq) bs) := by
            have h6 := hI.out.2
            rwa [List.take_of_length_le (by have := HN2.out; omega)] at h6
          have HC : Hid (ovc xs bs = 0) := ovc_ok HGA.out HGB.out (by rw [← hfl.len]; exact hm)
          have HPL : Hid (ovq xs bs = ofq (xs.map fq) bs) := ovq_ok HC.out
          have HR := Lib.hid (And.intro hI.out.1 hfl)
          clear hI hfl
          go_wp2
          go_ret2
          exact ⟨HR.out.1, A', m, c', by rw [HC.out]; rfl, by rw [HPL.out]; exact HR.out.2⟩
    · rw [hg] at CB
      have HC : Hid (ovc xs bs = 3) := ovc_b HGA.out hg
      have HPL : Hid (ovq xs bs = []) := ovq_no (by rw [HC.out]; decide)
      clear hg
      go_enter Try.func9, Try.ntmps9
      go_wp2_with fail
      refine (CA.out).mono ?_
      rintro e w3 ⟨rfl, hb3⟩
      go_wp2_with fail
      refine (CB.out _ hb3).mono ?_
      rintro e w4 ⟨rfl, hb4⟩
      have HB := Lib.hid (bt hb3 hb4)
      go_wp2
      go_ret2
      exact ⟨HB.out, none, 0, 0, by rw [HC.out]; rfl, by rw [HPL.out]; exact ListO.nil⟩
  · rw [hg] at CA
    have HC : Hid (ovc xs bs = 3) := ovc_a hg
    have HPL : Hid (ovq xs bs = []) := ovq_no (by rw [HC.out]; decide)
    clear hg
    go_enter Try.func9, Try.ntmps9
    go_wp2_with fail
    refine (CA.out).mono ?_
    rintro e w5 ⟨rfl, hb5⟩
    have HB := Lib.hid hb5
    go_wp2
    go_ret2
    exact ⟨HB.out, none, 0, 0, by rw [HC.out]; rfl, by rw [HPL.out]; exact ListO.nil⟩
end Go.Proofs.Ytphofjinncbaaaa
namespace Go.Proofs.Ytphofjinncbaaaa
open Go.RowKit
set_option linter.unusedVariables false
set_option linter.unusedSimpArgs false

def dfc (a b : List Bn) : Int := if goodl a = true then (if goodl b = true then 0 else 3) else 3
def dfl (a b : List Bn) : List ByteArray := if dfc a b = 0 then difm (a.map fq) (b.map fq) else []
section
variable {a b : List Bn}
theorem dfc_a (h : goodl a = false) : dfc a b = 3 := by unfold dfc; rw [if_neg (by rw [h]; decide)]
theorem dfc_b (h : goodl a = true) (h2 : goodl b = false) : dfc a b = 3 := by unfold dfc; rw [if_pos h, if_neg (by rw [h2]; decide)]
theorem dfc_ok (h : goodl a = true) (h2 : goodl b = true) : dfc a b = 0 := by unfold dfc; rw [if_pos h, if_pos h2]
theorem dfl_no (h : dfc a b ≠ 0) : dfl a b = [] := if_neg h
theorem dfl_ok (h : dfc a b = 0) : dfl a b = difm (a.map fq) (b.map fq) := if_pos h
end
def GDf (w : World) (a b : List Bn) (e : Ending) (w' : World) : Prop :=
  Below w.heap.size w w' ∧ ∃ A n c, e = .returned (.tuple #[.slice A n c, .int .i64 (dfc a b)]) ∧ RdK 1 w' A n c ((dfl a b).map Value.string) ∧ n ≤ 128
theorem ListI.tail {L n c b off : Nat} {w : World} {x : Bn} {xs : List Bn} (H : ListI L w (.slice (some ⟨b, off, none⟩) n c) (x :: xs)) : ListI L w (.slice (if c = 1 then some ⟨b, off, none⟩ else some ⟨b, off + 2, none⟩) (n - 1) (c - 1)) xs := by
  obtain ⟨_, _, _, hs, e, h1, h2, h3⟩ := H
  injection e with e1 e2 e3
  subst e1 e2 e3
  have hl : hs.length = xs.length + 1 := h3.1
  cases hs with
  | nil => simp at hl
  | cons h hs =>
    have hn : n = xs.length + 1 := by simpa using h2
    refine ⟨_, _, _, hs, rfl, ⟨⟨?_, ?_⟩, fun hn0 => ?_⟩, by omega, by simpa using hl, fun i a r e1 e2 => h3.2 (i + 1) a r (by simpa using e1) (by simpa using e2)⟩
    · have := h1.1.1
      rw [List.flatMap_cons, List.length_append, hbv_len] at this
      omega
    · have := h1.1.2; omega
    · have hc1 : ¬ c = 1 := by have := h1.1.2; omega
      rw [if_neg hc1]
      obtain ⟨b', off', e', hb, hc⟩ := h1.2 (by omega)
      injection e' with e'
      injection e' with e1 e2
      subst e1 e2
      refine ⟨b, off + 2, rfl, hb, fun i hi => ?_⟩
      have := hc (i + 2) (by omega)
      rw [show off + 2 + i = off + (i + 2) by omega, this, List.flatMap_cons, List.getElem?_append_right (by rw [hbv_len]; omega), hbv_len]
      congr 1
theorem ListI.head {L n c : Nat} {A : Option Addr} {w : World} {x : Bn} {xs : List Bn} (H : ListI L w (.slice A n c) (x :: xs)) : ∃ b off A1 n1 c1, A = some ⟨b, off, none⟩ ∧ At w ⟨b, off, none⟩ (.string x.1) ∧ At w ⟨b, off + 1, none⟩ (.slice A1 n1 c1) ∧ PolyI L w (.slice A1 n1 c1) x.2 ∧ n1 ≤ 1073741824 := by
  obtain ⟨b, off, A1, n1, c1, r, e, hb, eq, h0, h1, h3, h4, h5⟩ := H.at (i := 0) (by simp)
  simp only [List.getElem?_cons_zero, Option.some.injEq] at eq
  subst eq
  simp only [Nat.zero_mul, Nat.add_zero] at h0 h1
  exact ⟨b, off, A1, n1, c1, e, h0, h1, h3, h5⟩
theorem difm_l {x : Bq} {xs : List Bq} : difm (x :: xs) [] = x.1 :: difm xs [] := by rw [difm]
theorem difm_r {y : Bq} {ys : List Bq} : difm [] (y :: ys) = y.1 :: difm [] ys := by rw [difm, difm]; rfl
theorem difm_lt {x y : Bq} {xs ys : List Bq} (h : bcmp x.1 y.1 < 0) : difm (x :: xs) (y :: ys) = x.1 :: difm xs (y :: ys) := by rw [difm, if_pos h]
theorem difm_gt {x y : Bq} {xs ys : List Bq} (h0 : ¬ bcmp x.1 y.1 < 0) (h : bcmp y.1 x.1 < 0) : difm (x :: xs) (y :: ys) = y.1 :: difm (x :: xs) ys := by rw [difm, if_neg h0, if_pos h]
theorem difm_eq {x y : Bq} {xs ys : List Bq} (h0 : ¬ bcmp x.1 y.1 < 0) (h : ¬ bcmp y.1 x.1 < 0) (h2 : x.2 = y.2) : difm (x :: xs) (y :: ys) = difm xs ys := by rw [difm, if_neg h0, if_neg h, if_pos h2]
theorem difm_ne {x y : Bq} {xs ys : List Bq} (h0 : ¬ bcmp x.1 y.1 < 0) (h : ¬ bcmp y.1 x.1 < 0) (h2 : ¬ x.2 = y.2) : difm (x :: xs) (y :: ys) = x.1 :: difm xs ys := by rw [difm, if_neg h0, if_neg h, if_neg h2]
def DI (w : World) (L : Nat) (D : List ByteArray) (xs ys : List Bn) (ns : List ByteArray) (va vb : Value) (Ao : Option Addr) (no co : Nat) (wr : World) : Prop :=
  Below w.heap.size w wr ∧ ListI L w va xs ∧ ListI L w vb ys ∧ RowK 1 9 w.heap.size wr Ao no co (ns.map Value.string) ∧ ns ++ difm (xs.map fq) (ys.map fq) = D ∧ (∀ b ∈ xs, ∀ r ∈ b.2, 0 < r.2.2) ∧ (∀ b ∈ ys, ∀ r ∈ b.2, 0 < r.2.2)
set_option maxHeartbeats 8000000 in
set_option maxRecDepth 100000 in
theorem edif_any {L n c n2 c2 : Nat} {A A2 : Option Addr} {xs ys : List Bn} {w : World} (h : ListI L w (.slice A n c) xs) (h2 : ListI L w (.slice A2 n2 c2) ys) (hL1 : 1 ≤ L) (hL : L ≤ 268435456) (hn : n ≤ 1073741824) (hn2 : n2 ≤ 1073741824) :
    Calls Try.prog 15 #[.slice A n c, .slice A2 n2 c2] w (GDf w xs ys) := by
  have H := Lib.hid h
  have H2 := Lib.hid h2
  have HN1 : Hid (n = xs.length) := h.len.1
  have HN2 : Hid (n2 = ys.length) := h2.len.1
  have CA := Lib.hid (egood_any h hL1 hL hn)
  have CB := Lib.hid fun w' (hb : Below w.heap.size w w') => egood_any (h2.below hb) hL1 hL hn2
  clear h h2
  rcases Bool.eq_false_or_eq_true (goodl xs) with hg | hg
  · rw [hg] at CA
    have HGA := Lib.hid hg
    clear hg
    rcases Bool.eq_false_or_eq_true (goodl ys) with hg | hg
    · rw [hg] at CB
      have HGB := Lib.hid hg
      clear hg
      go_enter Try.func15, Try.ntmps15
      go_wp2_with fail
      refine (CA.out).mono ?_
      rintro e w1 ⟨rfl, hb1⟩
      go_wp2_with fail
      refine (CB.out _ hb1).mono ?_
      rintro e w2 ⟨rfl, hb2⟩
      have HC : Hid (dfc xs ys = 0) := dfc_ok HGA.out HGB.out
      have HDL : Hid (dfl xs ys = difm (xs.map fq) (ys.map fq)) := dfl_ok HC.out
      have HI0 : Hid (DI w L (difm (xs.map fq) (ys.map fq)) xs ys [] (.slice A n c) (.slice A2 n2 c2) none 0 0 w2) := ⟨(bt hb1 hb2), H.out, H2.out, RowK.nil, rfl, good_pos HGA.out, good_pos HGB.out⟩
      have hn64 : n ≤ 64 := by have := good_le HGA.out; have := HN1.out; omega
      have hn264 : n2 ≤ 64 := by have := good_le HGB.out; have := HN2.out; omega
      generalize difm (xs.map fq) (ys.map fq) = D at HI0 HDL
      go_wp2
      go_loopw [0, 1, 6] (fun av bv ov wr => ∃ (us vs : List Bn) (ns : List ByteArray) (Ax : Option Addr) (nx cx : Nat) (Ay : Option Addr) (ny cy : Nat) (Ao : Option Addr) (no co : Nat), Hid (DI w L D us vs ns (.slice Ax nx cx) (.slice Ay ny cy) Ao no co wr) ∧ nx ≤ 64 ∧ ny ≤ 64 ∧ no + nx + ny ≤ 128 ∧ av = .slice Ax nx cx ∧ bv = .slice Ay ny cy ∧ ov = .slice Ao no co) (fun av bv _ _ => slen av + slen bv)
      case atStart => exact ⟨xs, ys, [], A, n, c, A2, n2, c2, none, 0, 0, HI0, hn64, hn264, by omega, rfl, rfl, rfl⟩
      case round =>
        obtain ⟨us, vs, ns, Ax, nx, cx, Ay, ny, cy, Ao, no, co, hI, hx, hy, ho, rfl, rfl, rfl⟩ := hrel
        have HLX : Hid (nx = us.length) := hI.out.2.1.len.1
        have HLY : Hid (ny = vs.length) := hI.out.2.2.1.len.1
        clear HI0
        cases us with
        | nil =>
          cases vs with
          | nil =>
            obtain rfl : nx = 0 := HLX.out
            obtain rfl : ny = 0 := HLY.out
            have HR : Hid (Below w.heap.size w wr ∧ RdK 1 wr Ao no co ((dfl xs ys).map Value.string)) := by
              have h1 := hI.out.2.2.2.2.1
              rw [List.map_nil, difm, List.map_nil, List.append_nil] at h1
              refine ⟨hI.out.1, ?_⟩
              rw [HDL.out, ← h1]
              exact hI.out.2.2.2.1.rd
            clear hI
            go_wp2
            go_ret2
            exact ⟨HR.out.1, Ao, no, co, by rw [HC.out]; rfl, HR.out.2, by omega⟩
          | cons y vs =>
            obtain rfl : nx = 0 := HLX.out
            have HBW := Lib.hid hI.out.1
            have HRW := Lib.hid hI.out.2.2.2.1
            have HDD := Lib.hid hI.out.2.2.2.2.1
            have HXP := Lib.hid hI.out.2.2.2.2.2.1
            have HYP := Lib.hid hI.out.2.2.2.2.2.2
            have HLI := Lib.hid hI.out.2.1
            have HLI2 := Lib.hid hI.out.2.2.1
            have hny : 0 < ny := by have := HLY.out; rw [List.length_cons] at this; omega
            obtain ⟨b2, off2, A3, n3, c3, e2, k0, k1, hp2, hn3⟩ := (hI.out.2.2.1.below hI.out.1).head
            subst e2
            have j1 : (0 : Int) < (ny : Int) := by omega
            have j3 : ((ny : Int) == 0) = false := by rw [beq_eq_false_iff_ne]; omega
            have HLT2 := Lib.hid HLI2.out.tail
            have y0 := k0.1
            clear hI hp2 k1
            go_wp2_with fail
            go_wp2_with fail
            refine wp_region_grow none [(true, 0), (true, 1), (true, 2), (true, 3), (true, 4), (true, 5), (true, 6), (true, 7), (true, 8), (true, 9), (true, 10), (true, 11), (true, 12), (true, 13), (true, 14), (true, 15), (true, 16), (true, 17), (true, 18), (true, 19)] (by kernel_rfl) (by kernel_rfl) ?_
            repeat (refine ord_pas (by rfl) (fun K hK => ?_); go_simp; refine hK _ _ (fun w' hw' => (by first | (go_simp; done) | (go_simp; intro hh; cases hh))) ?_; clear hK K)
            refine ord_nil ?_
            go_wp2_with fail
            refine wp_region_grow none [(true, 0), (true, 1), (true, 2), (true, 3), (true, 4), (true, 5), (true, 6), (true, 7), (true, 8), (true, 9), (true, 10), (true, 11), (true, 12), (true, 13), (true, 14)] (by kernel_rfl) (by kernel_rfl) ?_
            repeat (refine ord_pas (by rfl) (fun K hK => ?_); go_simp; refine hK _ _ (fun w' hw' => (by first | (go_simp; done) | (go_simp; intro hh; cases hh))) ?_; clear hK K)
            refine ord_nil ?_
            go_wp2_with (at_builtin; (refine wpList_appK rfl (.tmp 88) (.tmp 93) rfl elText (B := w.heap.size) (us := [.string y.1]) rfl rfl (((HRW.out.below (Below.refl _ _).drew).below (Below.refl _ _).drew).below (belowA _ _)) (RowK.lit (k := 1) (T := 9) (B := 0) (World.drew (World.drew wr)) 1 [.string y.1] (by simp) rfl (by omega) (Nat.zero_le _)).rd (by simp [Value.oneCell']) (by omega) (by omega) (by have := HBW.out.size; simp; omega) ?_); intro A4 c4 w4 hoo hb4 _; have HN : Hid (DI w L D [] vs (ns ++ [y.1]) (.slice Ax 0 cx) (.slice (if cy = 1 then some ⟨b2, off2, none⟩ else some ⟨b2, off2 + 2, none⟩) (ny - 1) (cy - 1)) A4 (no + 1) c4 w4) := ⟨((HBW.out.drew.drew).alloc HBW.out.size _).trans hb4, HLI.out, HLT2.out, by simpa using hoo, by rw [← HDD.out, List.map_nil, List.map_cons, difm_r, List.append_assoc]; rfl, HXP.out, fun b' hb' => HYP.out b' (List.mem_cons_of_mem _ hb')⟩; clear hoo hb4)
            go_roundw
            case rel => exact ⟨[], vs, ns ++ [y.1], Ax, 0, cx, _, ny - 1, cy - 1, A4, no + 1, c4, HN, by omega, by omega, by omega, rfl, rfl, rfl⟩
            case measure => simp [slen]; omega
        | cons x us =>
          cases vs with
          | nil =>
            obtain rfl : ny = 0 := HLY.out
            have HBW := Lib.hid hI.out.1
            have HRW := Lib.hid hI.out.2.2.2.1
            have HDD := Lib.hid hI.out.2.2.2.2.1
            have HXP := Lib.hid hI.out.2.2.2.2.2.1
            have HYP := Lib.hid hI.out.2.2.2.2.2.2
            have HLI := Lib.hid hI.out.2.1
            have HLI2 := Lib.hid hI.out.2.2.1
            have hnx : 0 < nx := by have := HLX.out; rw [List.length_cons] at this; omega
            obtain ⟨b, off, A1, n1, c1, e, g0, g1, hp, hn1⟩ := (hI.out.2.1.below hI.out.1).head
            subst e
            have i1 : (0 : Int) < (nx : Int) := by omega
            have i3 : ((nx : Int) == 0) = false := by rw [beq_eq_false_iff_ne]; omega
            have HLT := Lib.hid HLI.out.tail
            have x0 := g0.1
            clear hI hp g1
            go_wp2_with fail
            go_wp2_with fail
            have e_g0 := g0.1
            have g_g0 := At.grow g0
            refine wp_region_grow none [(true, 0), (true, 1), (true, 2), (true, 3), (true, 4), (true, 5), (true, 6), (true, 7), (true, 8), (true, 9), (true, 10), (true, 11), (true, 12), (true, 13), (true, 14), (true, 15), (true, 16), (true, 17), (true, 18), (true, 19)] (by kernel_rfl) (by kernel_rfl) ?_
            repeat (refine ord_pas (by rfl) (fun K hK => ?_); go_simp; refine hK _ _ (fun w' hw' => (by first | (go_simp; done) | (go_simp; intro hh; cases hh))) ?_; clear hK K)
            refine ord_nil ?_
            go_wp2_with (at_builtin; (refine wpList_appK rfl (.tmp 64) (.tmp 69) rfl elText (B := w.heap.size) (us := [.string x.1]) rfl rfl ((HRW.out.below (Below.refl _ _).drew).below (belowA _ _)) (RowK.lit (k := 1) (T := 9) (B := 0) (World.drew wr) 1 [.string x.1] (by simp) rfl (by omega) (Nat.zero_le _)).rd (by simp [Value.oneCell']) (by omega) (by omega) (by have := HBW.out.size; simp; omega) ?_); intro A4 c4 w4 hoo hb4 _; have HN : Hid (DI w L D us [] (ns ++ [x.1]) (.slice (if cx = 1 then some ⟨b, off, none⟩ else some ⟨b, off + 2, none⟩) (nx - 1) (cx - 1)) (.slice Ay 0 cy) A4 (no + 1) c4 w4) := ⟨(HBW.out.drew.alloc HBW.out.size _).trans hb4, HLT.out, HLI2.out, by simpa using hoo, by rw [← HDD.out, List.map_nil, List.map_cons, difm_l, List.append_assoc]; rfl, fun b' hb' => HXP.out b' (List.mem_cons_of_mem _ hb'), HYP.out⟩; clear hoo hb4)
            go_roundw
            case rel => exact ⟨us, [], ns ++ [x.1], _, nx - 1, cx - 1, Ay, 0, cy, A4, no + 1, c4, HN, by omega, by omega, by omega, rfl, rfl, rfl⟩
            case measure => simp [slen]; omega
          | cons y vs =>
            have HBW := Lib.hid hI.out.1
            have HRW := Lib.hid hI.out.2.2.2.1
            have HDD := Lib.hid hI.out.2.2.2.2.1
            have HXP := Lib.hid hI.out.2.2.2.2.2.1
            have HYP := Lib.hid hI.out.2.2.2.2.2.2
            have HLI := Lib.hid hI.out.2.1
            have HLI2 := Lib.hid hI.out.2.2.1
            have hnx : 0 < nx := by have := HLX.out; rw [List.length_cons] at this; omega
            obtain ⟨b, off, A1, n1, c1, e, g0, g1, hp, hn1⟩ := (hI.out.2.1.below hI.out.1).head
            subst e
            have i1 : (0 : Int) < (nx : Int) := by omega
            have i3 : ((nx : Int) == 0) = false := by rw [beq_eq_false_iff_ne]; omega
            have HLT := Lib.hid HLI.out.tail
            have hny : 0 < ny := by have := HLY.out; rw [List.length_cons] at this; omega
            obtain ⟨b2, off2, A3, n3, c3, e2, k0, k1, hp2, hn3⟩ := (hI.out.2.2.1.below hI.out.1).head
            subst e2
            have j1 : (0 : Int) < (ny : Int) := by omega
            have j3 : ((ny : Int) == 0) = false := by rw [beq_eq_false_iff_ne]; omega
            have HLT2 := Lib.hid HLI2.out.tail
            have x0 := g0.1
            have y0 := k0.1
            have x1 := g1.1
            have y1 := k1.1
            have HP := Lib.hid hp
            have HP2 := Lib.hid hp2
            clear hI hp hp2
            by_cases c1 : bcmp x.1 y.1 < 0
            · have C1 := Lib.hid c1
              have d1 : Op.bytesLess x.1.toList y.1.toList = true := by rw [bcmp_lt, decide_eq_true c1]
              go_wp2_with fail
              go_wp2_with fail
              have e_g0 := g0.1
              have g_g0 := At.grow g0
              have e_k0 := k0.1
              have g_k0 := At.grow k0
              refine wp_region_grow none [(true, 0), (true, 1), (true, 2), (true, 3), (true, 4), (true, 5), (true, 6), (true, 7), (true, 8), (true, 9), (true, 10), (true, 11), (true, 12), (true, 13), (true, 14), (true, 15), (true, 16), (true, 17), (true, 18), (true, 19)] (by kernel_rfl) (by kernel_rfl) ?_
              repeat (refine ord_pas (by rfl) (fun K hK => ?_); go_simp; refine hK _ _ (fun w' hw' => (by first | (go_simp; done) | (go_simp; intro hh; cases hh))) ?_; clear hK K)
              refine ord_nil ?_
              go_wp2_with (at_builtin; (refine wpList_appK rfl (.tmp 64) (.tmp 69) rfl elText (B := w.heap.size) (us := [.string x.1]) rfl rfl ((HRW.out.below (Below.refl _ _).drew).below (belowA _ _)) (RowK.lit (k := 1) (T := 9) (B := 0) (World.drew wr) 1 [.string x.1] (by simp) rfl (by omega) (Nat.zero_le _)).rd (by simp [Value.oneCell']) (by omega) (by omega) (by have := HBW.out.size; simp; omega) ?_); intro A4 c4 w4 hoo hb4 _; have HN : Hid (DI w L D us (y :: vs) (ns ++ [x.1]) (.slice (if cx = 1 then some ⟨b, off, none⟩ else some ⟨b, off + 2, none⟩) (nx - 1) (cx - 1)) (.slice (some ⟨b2, off2, none⟩) ny cy) A4 (no + 1) c4 w4) := ⟨(HBW.out.drew.alloc HBW.out.size _).trans hb4, HLT.out, HLI2.out, by simpa using hoo, by rw [← HDD.out, List.map_cons, List.map_cons, difm_lt C1.out, List.append_assoc]; rfl, fun b' hb' => HXP.out b' (List.mem_cons_of_mem _ hb'), HYP.out⟩; clear hoo hb4)
              go_roundw
              case rel => exact ⟨us, y :: vs, ns ++ [x.1], _, nx - 1, cx - 1, _, ny, cy, A4, no + 1, c4, HN, by omega, by omega, by omega, rfl, rfl, rfl⟩
              case measure => simp [slen]; omega
            · have d1 : Op.bytesLess x.1.toList y.1.toList = false := by rw [bcmp_lt, decide_eq_false c1]
              have C1 : Hid (0 ≤ bcmp x.1 y.1) := Int.not_lt.1 c1
              by_cases c2 : bcmp y.1 x.1 < 0
              · have d2 : Op.bytesLess y.1.toList x.1.toList = true := by rw [bcmp_lt, decide_eq_true c2]
                have C2 := Lib.hid c2
                clear c1 c2
                go_wp2_with fail
                go_wp2_with fail
                have e_g0 := g0.1
                have g_g0 := At.grow g0
                have e_k0 := k0.1
                have g_k0 := At.grow k0
                refine wp_region_grow none [(true, 0), (true, 1), (true, 2), (true, 3), (true, 4), (true, 5), (true, 6), (true, 7), (true, 8), (true, 9), (true, 10), (true, 11), (true, 12), (true, 13), (true, 14), (true, 15), (true, 16), (true, 17), (true, 18), (true, 19)] (by kernel_rfl) (by kernel_rfl) ?_
                repeat (refine ord_pas (by rfl) (fun K hK => ?_); go_simp; refine hK _ _ (fun w' hw' => (by first | (go_simp; done) | (go_simp; intro hh; cases hh))) ?_; clear hK K)
                refine ord_nil ?_
                go_wp2_with fail
                go_wp2_with fail
                have e_g0 := (g0.below (Below.refl _ _).drew).1
                have g_g0 := At.grow (g0.below (Below.refl _ _).drew)
                have e_k0 := (k0.below (Below.refl _ _).drew).1
                have g_k0 := At.grow (k0.below (Below.refl _ _).drew)
                refine wp_region_grow none [(true, 0), (true, 1), (true, 2), (true, 3), (true, 4), (true, 5), (true, 6), (true, 7), (true, 8), (true, 9), (true, 10), (true, 11), (true, 12), (true, 13), (true, 14)] (by kernel_rfl) (by kernel_rfl) ?_
                repeat (refine ord_pas (by rfl) (fun K hK => ?_); go_simp; refine hK _ _ (fun w' hw' => (by first | (go_simp; done) | (go_simp; intro hh; cases hh))) ?_; clear hK K)
                refine ord_nil ?_
                go_wp2_with (at_builtin; (refine wpList_appK rfl (.tmp 88) (.tmp 93) rfl elText (B := w.heap.size) (us := [.string y.1]) rfl rfl (((HRW.out.below (Below.refl _ _).drew).below (Below.refl _ _).drew).below (belowA _ _)) (RowK.lit (k := 1) (T := 9) (B := 0) (World.drew (World.drew wr)) 1 [.string y.1] (by simp) rfl (by omega) (Nat.zero_le _)).rd (by simp [Value.oneCell']) (by omega) (by omega) (by have := HBW.out.size; simp; omega) ?_); intro A4 c4 w4 hoo hb4 _; have HN : Hid (DI w L D (x :: us) vs (ns ++ [y.1]) (.slice (some ⟨b, off, none⟩) nx cx) (.slice (if cy = 1 then some ⟨b2, off2, none⟩ else some ⟨b2, off2 + 2, none⟩) (ny - 1) (cy - 1)) A4 (no + 1) c4 w4) := ⟨((HBW.out.drew.drew).alloc HBW.out.size _).trans hb4, HLI.out, HLT2.out, by simpa using hoo, by rw [← HDD.out, List.map_cons, List.map_cons, difm_gt (Int.not_lt.2 C1.out) C2.out, List.append_assoc]; rfl, HXP.out, fun b' hb' => HYP.out b' (List.mem_cons_of_mem _ hb')⟩; clear hoo hb4)
                go_roundw
                case rel => exact ⟨x :: us, vs, ns ++ [y.1], _, nx, cx, _, ny - 1, cy - 1, A4, no + 1, c4, HN, by omega, by omega, by omega, rfl, rfl, rfl⟩
                case measure => simp [slen]; omega
              · have d2 : Op.bytesLess y.1.toList x.1.toList = false := by rw [bcmp_lt, decide_eq_false c2]
                have C2 : Hid (0 ≤ bcmp y.1 x.1) := Int.not_lt.1 c2
                have i5 : (1 : Int) ≤ (nx : Int) := by omega
                have j5 : (1 : Int) ≤ (ny : Int) := by omega
                clear c1 c2
                obtain ⟨d, hd⟩ : ∃ d, decide (pn x.2 = pn y.2) = d := ⟨_, rfl⟩
                have HD := Lib.hid hd
                have CE := Lib.hid fun w' (hb : Below wr.heap.size wr w') => equal_any (HP.out.below hb) (HXP.out x (List.mem_cons_self ..)) (HP2.out.below hb) (HYP.out y (List.mem_cons_self ..)) hL1 hL hn1 hn3
                rw [hd] at CE
                clear hd
                go_wp2_with fail
                go_wp2_with fail
                have e_g0 := g0.1
                have g_g0 := At.grow g0
                have e_k0 := k0.1
                have g_k0 := At.grow k0
                refine wp_region_grow none [(true, 0), (true, 1), (true, 2), (true, 3), (true, 4), (true, 5), (true, 6), (true, 7), (true, 8), (true, 9), (true, 10), (true, 11), (true, 12), (true, 13), (true, 14), (true, 15), (true, 16), (true, 17), (true, 18), (true, 19)] (by kernel_rfl) (by kernel_rfl) ?_
                repeat (refine ord_pas (by rfl) (fun K hK => ?_); go_simp; refine hK _ _ (fun w' hw' => (by first | (go_simp; done) | (go_simp; intro hh; cases hh))) ?_; clear hK K)
                refine ord_nil ?_
                go_wp2_with fail
                go_wp2_with fail
                have e_g0 := (g0.below (Below.refl _ _).drew).1
                have g_g0 := At.grow (g0.below (Below.refl _ _).drew)
                have e_k0 := (k0.below (Below.refl _ _).drew).1
                have g_k0 := At.grow (k0.below (Below.refl _ _).drew)
                refine wp_region_grow none [(true, 0), (true, 1), (true, 2), (true, 3), (true, 4), (true, 5), (true, 6), (true, 7), (true, 8), (true, 9), (true, 10), (true, 11), (true, 12), (true, 13), (true, 14)] (by kernel_rfl) (by kernel_rfl) ?_
                repeat (refine ord_pas (by rfl) (fun K hK => ?_); go_simp; refine hK _ _ (fun w' hw' => (by first | (go_simp; done) | (go_simp; intro hh; cases hh))) ?_; clear hK K)
                refine ord_nil ?_
                go_wp2_with fail
                go_wp2_with fail
                have e_g1 := ((g1.below (Below.refl _ _).drew).below (Below.refl _ _).drew).1
                have g_g1 := At.grow ((g1.below (Below.refl _ _).drew).below (Below.refl _ _).drew)
                have e_k1 := ((k1.below (Below.refl _ _).drew).below (Below.refl _ _).drew).1
                have g_k1 := At.grow ((k1.below (Below.refl _ _).drew).below (Below.refl _ _).drew)
                refine wp_region_grow none [(true, 0), (true, 1), (true, 2), (true, 3), (true, 4), (true, 5), (true, 6), (true, 7), (false, 8), (true, 9)] (by kernel_rfl) (by kernel_rfl) ?_
                repeat (refine ord_pas (by rfl) (fun K hK => ?_); go_simp; refine hK _ _ (fun w' hw' => (by first | (go_simp; done) | (go_simp; intro hh; cases hh))) ?_; clear hK K)
                (refine ord_call (by rfl) (fun K hK => ?_); go_simp; refine hK _ _ ?_; clear hK K)
                refine (CE.out _ (bt (bt (Below.refl _ _).drew (Below.refl _ _).drew) (Below.refl _ _).drew)).mono ?_
                rintro e w1 ⟨rfl, hb1⟩
                refine ⟨_, rfl, Grow.of_below hb1, ?_⟩
                (refine ord_norm (fun K hK => ?_); go_simp; refine hK _ ?_; clear hK K)
                repeat (refine ord_pas (by rfl) (fun K hK => ?_); go_simp; refine hK _ _ (fun w' hw' => (by first | (go_simp; done) | (go_simp; intro hh; cases hh))) ?_; clear hK K)
                refine ord_nil ?_
                have HBE := Lib.hid (bt HBW.out (bt (bt (bt (Below.refl _ _).drew (Below.refl _ _).drew) (Below.refl _ _).drew) hb1))
                have HRE := Lib.hid (HRW.out.below (bt (bt (bt (Below.refl _ _).drew (Below.refl _ _).drew) (Below.refl _ _).drew) hb1))
                have HX0 := Lib.hid ((((g0.below (Below.refl _ _).drew).below (Below.refl _ _).drew).below (Below.refl _ _).drew).below hb1)
                clear x0 y0 x1 y1 CE g0 g1 k0 k1
                obtain ⟨WE, hWE⟩ : ∃ WE, WE = w1 := ⟨_, rfl⟩
                rw [← hWE] at HBE HRE HX0 ⊢
                clear hWE
                cases d
                · have x0 := HX0.out.1
                  go_wp2_with (at_builtin; (refine wpList_appK rfl (.tmp 33) (.tmp 38) rfl elText (B := w.heap.size) (us := [.string x.1]) rfl rfl (HRE.out.below (belowA _ _)) (RowK.lit (k := 1) (T := 9) (B := 0) WE 1 [.string x.1] (by simp) rfl (by omega) (Nat.zero_le _)).rd (by simp [Value.oneCell']) (by omega) (by omega) (by have := HBE.out.size; simp; omega) ?_); intro A4 c4 w4 hoo hb4 _; have HN : Hid (DI w L D us vs (ns ++ [x.1]) (.slice (if cx = 1 then some ⟨b, off, none⟩ else some ⟨b, off + 2, none⟩) (nx - 1) (cx - 1)) (.slice (if cy = 1 then some ⟨b2, off2, none⟩ else some ⟨b2, off2 + 2, none⟩) (ny - 1) (cy - 1)) A4 (no + 1) c4 w4) := ⟨(HBE.out.alloc HBE.out.size _).trans hb4, HLT.out, HLT2.out, by simpa using hoo, by rw [← HDD.out, List.map_cons, List.map_cons, difm_ne (Int.not_lt.2 C1.out) (Int.not_lt.2 C2.out) (of_decide_eq_false HD.out), List.append_assoc]; rfl, fun b' hb' => HXP.out b' (List.mem_cons_of_mem _ hb'), fun b' hb' => HYP.out b' (List.mem_cons_of_mem _ hb')⟩; clear hoo hb4)
                  go_wp2_with fail
                  refine wp_region_grow none [(true, 0), (true, 1), (true, 2), (true, 3), (true, 4), (true, 5)] (by kernel_rfl) (by kernel_rfl) ?_
                  repeat (refine ord_pas (by rfl) (fun K hK => ?_); go_simp; refine hK _ _ (fun w' hw' => (by first | (go_simp; done) | (go_simp; intro hh; cases hh))) ?_; clear hK K)
                  refine ord_nil ?_
                  have HN2 := Lib.hid (show DI w L D us vs (ns ++ [x.1]) (.slice (if cx = 1 then some ⟨b, off, none⟩ else some ⟨b, off + 2, none⟩) (nx - 1) (cx - 1)) (.slice (if cy = 1 then some ⟨b2, off2, none⟩ else some ⟨b2, off2 + 2, none⟩) (ny - 1) (cy - 1)) A4 (no + 1) c4 (World.drew w4) from ⟨HN.out.1.drew, HN.out.2.1, HN.out.2.2.1, HN.out.2.2.2.1.below (Below.refl _ _).drew, HN.out.2.2.2.2⟩)
                  go_wp2
                  go_roundw
                  case rel => exact ⟨us, vs, ns ++ [x.1], _, nx - 1, cx - 1, _, ny - 1, cy - 1, A4, no + 1, c4, HN2, by omega, by omega, by omega, rfl, rfl, rfl⟩
                  case measure => simp [slen]; omega
                · have HN : Hid (DI w L D us vs ns (.slice (if cx = 1 then some ⟨b, off, none⟩ else some ⟨b, off + 2, none⟩) (nx - 1) (cx - 1)) (.slice (if cy = 1 then some ⟨b2, off2, none⟩ else some ⟨b2, off2 + 2, none⟩) (ny - 1) (cy - 1)) Ao no co WE.drew) := ⟨HBE.out.drew, HLT.out, HLT2.out, HRE.out.below (Below.refl _ _).drew, by rw [← HDD.out, List.map_cons, List.map_cons, difm_eq (Int.not_lt.2 C1.out) (Int.not_lt.2 C2.out) (of_decide_eq_true HD.out)], fun b' hb' => HXP.out b' (List.mem_cons_of_mem _ hb'), fun b' hb' => HYP.out b' (List.mem_cons_of_mem _ hb')⟩
                  go_wp2_with fail
                  go_wp2_with fail
                  refine wp_region_grow none [(true, 0), (true, 1), (true, 2), (true, 3), (true, 4), (true, 5)] (by kernel_rfl) (by kernel_rfl) ?_
                  repeat (refine ord_pas (by rfl) (fun K hK => ?_); go_simp; refine hK _ _ (fun w' hw' => (by first | (go_simp; done) | (go_simp; intro hh; cases hh))) ?_; clear hK K)
                  refine ord_nil ?_
                  go_wp2
                  go_roundw
                  case rel => exact ⟨us, vs, ns, _, nx - 1, cx - 1, _, ny - 1, cy - 1, Ao, no, co, HN, by omega, by omega, by omega, rfl, rfl, rfl⟩
                  case measure => simp [slen]; omega
    · skip
      rw [hg] at CB
      have HC : Hid (dfc xs ys = 3) := dfc_b HGA.out hg
      have HPL : Hid (dfl xs ys = []) := dfl_no (by rw [HC.out]; decide)
      clear hg
      go_enter Try.func15, Try.ntmps15
      go_wp2_with fail
      refine (CA.out).mono ?_
      rintro e w1 ⟨rfl, hb1⟩
      go_wp2_with fail
      refine (CB.out _ hb1).mono ?_
      rintro e w2 ⟨rfl, hb2⟩
      have HB := Lib.hid (bt hb1 hb2)
      go_wp2
      go_ret2
      exact ⟨HB.out, none, 0, 0, by rw [HC.out]; rfl, by rw [HPL.out]; exact RdK.nil, by omega⟩
  · skip
    rw [hg] at CA
    have HC : Hid (dfc xs ys = 3) := dfc_a hg
    have HPL : Hid (dfl xs ys = []) := dfl_no (by rw [HC.out]; decide)
    clear hg
    go_enter Try.func15, Try.ntmps15
    go_wp2_with fail
    refine (CA.out).mono ?_
    rintro e w1 ⟨rfl, hb1⟩
    have HB := Lib.hid hb1
    go_wp2
    go_ret2
    exact ⟨HB.out, none, 0, 0, by rw [HC.out]; rfl, by rw [HPL.out]; exact RdK.nil, by omega⟩
end Go.Proofs.Ytphofjinncbaaaa
namespace Go.Proofs.Ytphofjinncbaaaa
open Go.RowKit
set_option linter.unusedVariables false
set_option linter.unusedSimpArgs false

def ofn (acc : List Bq) (bs : List Bn) : List Bq := bs.foldl (fun q b => insq q (b.1, [])) acc
theorem ofn_snoc {acc : List Bq} {bs : List Bn} {i : Nat} {b : Bn} (h : bs[i]? = some b) : ofn acc (bs.take (i + 1)) = insq (ofn acc (bs.take i)) (b.1, []) := by
  unfold ofn
  rw [take_snoc h, List.foldl_append]
  rfl
theorem ofn_rises (bs : List Bn) : ∀ (acc : List Bq), Rises acc → Rises (ofn acc bs) := by
  induction bs with
  | nil => intro acc h; exact h
  | cons b bs ih => intro acc h; exact ih _ (insq_rises acc _ h)
theorem ofn_mem (bs : List Bn) : ∀ (acc : List Bq) (t : ByteArray), t ∈ (ofn acc bs).map (·.1) ↔ t ∈ acc.map (·.1) ∨ t ∈ bs.map (·.1) := by
  induction bs with
  | nil => intro acc t; simp [ofn]
  | cons b bs ih =>
    intro acc t
    show t ∈ (ofn (insq acc (b.1, [])) bs).map (·.1) ↔ _
    rw [ih, insq_mem]
    simp only [List.map_cons, List.mem_cons]
    constructor
    · rintro ((h | h) | h)
      · exact .inr (.inl h)
      · exact .inl h
      · exact .inr (.inr h)
    · rintro (h | h | h)
      · exact .inl (.inr h)
      · exact .inl (.inl h)
      · exact .inr h
theorem ofn_len (bs : List Bn) : ∀ (acc : List Bq), (ofn acc bs).length ≤ acc.length + bs.length := by
  induction bs with
  | nil => intro acc; exact Nat.le_refl _
  | cons b bs ih =>
    intro acc
    have h1 := ih (insq acc (b.1, []))
    have h2 := (insq_len acc (b.1, [])).2
    show (ofn (insq acc (b.1, [])) bs).length ≤ _
    rw [List.length_cons]
    omega
theorem atr_neg {bs : List Bn} {t : ByteArray} (h : ¬ atn (bs.map (·.1)) t < (bs.map (·.1)).length) : lk (bs.map fq) t = none := by
  rw [lk_none, fq_names]
  intro hm
  obtain ⟨k, hk, e⟩ := mem_nat hm
  exact atn_before _ t k (by omega) e
theorem atr_pos {bs : List Bn} {t : ByteArray} (hg : goodl bs = true) (h : atn (bs.map (·.1)) t < (bs.map (·.1)).length) : ∃ r, bs[atn (bs.map (·.1)) t]? = some r ∧ lk (bs.map fq) t = some (pn r.2) := by
  have hl : atn (bs.map (·.1)) t < bs.length := by simpa using h
  have ht := atn_at _ t h
  refine ⟨_, List.getElem?_eq_getElem hl, ?_⟩
  have hb : (bs.map (·.1))[atn (bs.map (·.1)) t]? = some t := by
    have : nat_ (bs.map (·.1)) (atn (bs.map (·.1)) t) = t := ht
    unfold nat_ at this
    rw [List.getElem?_eq_getElem h] at this ⊢
    simpa using this
  rw [List.getElem?_map, List.getElem?_eq_getElem hl] at hb
  have hb : (bs[atn (bs.map (·.1)) t]).1 = t := by simpa using hb
  have h2 : (bs.map fq)[atn (bs.map (·.1)) t]? = some (fq bs[atn (bs.map (·.1)) t]) := by rw [List.getElem?_map, List.getElem?_eq_getElem hl]; rfl
  have h3 := lk_at (rises_asc.1 (goodl_rises hg)) h2
  have h4 : (fq bs[atn (bs.map (·.1)) t]).1 = t := hb
  rw [h4] at h3
  exact h3
theorem filt_snoc {us : List ByteArray} {k : Nat} {s : ByteArray} {p : ByteArray → Bool} {b : Bool} (h : us[k]? = some s) (hp : p s = b) : (us.take (k + 1)).filter p = (us.take k).filter p ++ (if b = true then [s] else []) := by
  rw [take_snoc h, List.filter_append]
  congr 1
  subst hp
  cases hh : p s <;> simp [hh]
end Go.Proofs.Ytphofjinncbaaaa
namespace Go.Proofs.Ytphofjinncbaaaa
open Go.RowKit
set_option linter.unusedVariables false
set_option linter.unusedSimpArgs false

def smb (a b : List Bn) : Bool := decide (dfc a b = 0 ∧ (dfl a b).length = 0)
theorem dfc_two (a b : List Bn) : dfc a b = 0 ∨ dfc a b = 3 := by
  unfold dfc
  split
  · split
    · exact .inl rfl
    · exact .inr rfl
  · exact .inr rfl
set_option maxHeartbeats 1000000 in
theorem esame_any {L n c n2 c2 : Nat} {A A2 : Option Addr} {xs ys : List Bn} {w : World} (h : ListI L w (.slice A n c) xs) (h2 : ListI L w (.slice A2 n2 c2) ys) (hL1 : 1 ≤ L) (hL : L ≤ 268435456) (hn : n ≤ 1073741824) (hn2 : n2 ≤ 1073741824) :
    Calls Try.prog 12 #[.slice A n c, .slice A2 n2 c2] w (Keeps (.bool (smb xs ys)) w) := by
  have C := Lib.hid (edif_any h h2 hL1 hL hn hn2)
  clear h h2
  go_enter Try.func12, Try.ntmps12
  go_wp2_with fail
  refine C.out.mono ?_
  rintro e w1 ⟨hb, A3, n3, c3, rfl, hr, h128⟩
  have HB := Lib.hid hb
  have HL : Hid ((dfl xs ys).length = n3) := by have h1 := hr.1.1; rw [List.length_map] at h1; show _ = _; omega
  clear hb hr C
  rcases dfc_two xs ys with hz | hz
  · rw [hz]
    have HS : Hid (smb xs ys = decide (n3 = 0)) := by show _ = _; unfold smb; rw [hz, HL.out]; simp
    clear hz
    by_cases h0 : n3 = 0
    · subst h0
      go_wp2
      go_ret
      exact ⟨by rw [HS.out]; rfl, HB.out⟩
    · have d : ((n3 : Int) == 0) = false := by rw [beq_eq_false_iff_ne]; omega
      have HF : Hid (smb xs ys = false) := by rw [HS.out]; exact decide_eq_false h0
      clear h0
      go_wp2
      go_ret
      exact ⟨by rw [HF.out]; simp, HB.out⟩
  · rw [hz]
    have HS : Hid (smb xs ys = false) := by show _ = _; unfold smb; rw [hz]; simp
    clear hz
    go_wp2
    go_ret
    exact ⟨by rw [HS.out]; rfl, HB.out⟩
theorem ovq_len (a b : List Bn) : (ovq a b).length ≤ a.length + b.length := by
  unfold ovq
  split
  · have := ofq_len2 b (a.map fq)
    rw [List.length_map] at this
    exact this
  · simp
end Go.Proofs.Ytphofjinncbaaaa
