/-
  surdref26.set where only names count. slices.Equal at numbers; qpoly.sameRat; slices.EqualFunc at polynomials; qpoly.both, Same; env.equal. env.Over; surdref26.Over. env.Differ, Same; surdref26.Differ, Same. surdref26.Differ; env.Same, surdref26.Same. env.Same, surdref26.Same; EnvJoins, walked.
-/
import Derived.Test.YtphofjinncbaaaaGreatPutY
namespace Go.Proofs.YtphofjinncbaaaaGreat
open Go.RowKit
set_option linter.unusedVariables false
set_option linter.unusedSimpArgs false

def OwnN (B L : Nat) (w : World) (h : Hb) (q : Bq) : Prop := h.1 = q.1 ∧ True
def ListN (B L : Nat) (w : World) (A : Option Addr) (n c : Nat) (qs : List Bq) : Prop := ∃ hs, RowK 2 89 B w A n c (hs.flatMap hbv) ∧ All2 (OwnN B L w) hs qs
theorem OwnN.below {B L : Nat} {w w' : World} {h : Hb} {q : Bq} (H : OwnN B L w h q) (hb : Below w.heap.size w w') : OwnN B L w' h q := H
theorem OwnN.grownR {B L : Nat} {w w' : World} {h : Hb} {q : Bq} {vs : List Value} {A2 : Option Addr} {n2 c2 : Nat} (H : OwnN B L w h q) (hr : RowK 2 89 B w A2 n2 c2 vs) (hg : w.grownBy w' (Value.slice A2 n2 c2).ownBlock) : OwnN B L w' h q := H
theorem ListN.below {B L n c : Nat} {w w' : World} {A : Option Addr} {qs : List Bq} (H : ListN B L w A n c qs) (hb : Below w.heap.size w w') : ListN B L w' A n c qs := by
  obtain ⟨hs, h1, h2⟩ := H
  exact ⟨hs, h1.below hb, h2.imp fun _ _ e => e.below hb⟩
theorem ListN.mono {B B' L n c : Nat} {w : World} {A : Option Addr} {qs : List Bq} (H : ListN B L w A n c qs) (hB : B' ≤ B) : ListN B' L w A n c qs := by
  obtain ⟨hs, h1, h2⟩ := H
  exact ⟨hs, h1.mono hB, h2⟩
theorem ListN.len {B L n c : Nat} {w : World} {A : Option Addr} {qs : List Bq} (H : ListN B L w A n c qs) : n = qs.length := by
  obtain ⟨hs, h1, h2⟩ := H
  have := h1.len
  rw [flat2_len hbv hbv_len, h2.1] at this
  omega
theorem ListR.n {B L n c : Nat} {w : World} {A : Option Addr} {qs : List Bq} (H : ListR B L w A n c qs) : ListN B L w A n c qs := by
  obtain ⟨hs, h1, h2⟩ := H
  exact ⟨hs, h1, h2.imp fun _ _ e => ⟨e.1, trivial⟩⟩
def ListNS (B B2 L : Nat) (w : World) (A : Option Addr) (n c : Nat) (qs : List Bq) : Prop := ∃ hs, RowK 2 89 B2 w A n c (hs.flatMap hbv) ∧ All2 (OwnN B L w) hs qs
theorem ListNS.below {B B2 L n c : Nat} {w w' : World} {A : Option Addr} {qs : List Bq} (H : ListNS B B2 L w A n c qs) (hb : Below w.heap.size w w') : ListNS B B2 L w' A n c qs := by
  obtain ⟨hs, h1, h2⟩ := H
  exact ⟨hs, h1.below hb, h2.imp fun _ _ e => e.below hb⟩
theorem ListNS.len {B B2 L n c : Nat} {w : World} {A : Option Addr} {qs : List Bq} (H : ListNS B B2 L w A n c qs) : n = qs.length := by
  obtain ⟨hs, h1, h2⟩ := H
  have := h1.len
  rw [flat2_len hbv hbv_len, h2.1] at this
  omega
/-- append of one binding to the document's list, at the operation -/
theorem wpList_appN26 {B B2 L n c c2 : Nat} {w : World} {A A2 : Option Addr} (h : Hb) {q : Bq} {qs : List Bq} {ops : Array Oper} {rest : List Oper} {o : Oper} {a : Act} {Q : Exit → Act → World → Prop} (hgd : o.guard = none) (s x : Operand)
    (ho : o.op = .call { callee := .builtin .append, args := #[s, x], argTypes := #[31, 31] })
    (hs : a.eval s = .slice A n c) (hx : a.eval x = .slice A2 1 c2) (H : ListNS B B2 L w A n c qs) (hr : RdK 2 w A2 1 c2 (hbv h)) (hb : OwnN B L w h q) (hn : n ≤ 1099511627775) (hB2 : B ≤ B2) (hB : B2 ≤ w.heap.size)
    (hk : ∀ A' c' w', ListNS B B2 L w' A' (n + 1) c' (qs ++ [q]) → Below B2 w w' → w.grownBy w' (Value.slice A n c).ownBlock → wpList Tryz.prog ops Q rest (a.put o.dst (.slice A' (n + 1) c')) w') : wpList Tryz.prog ops Q (o :: rest) a w := by
  obtain ⟨hs', h1, h2⟩ := H
  refine wpList_appK hgd s x ho elBindR hs hx h1 hr (by intro u hu; simp [hbv] at hu; rcases hu with rfl | rfl <;> rfl) (by omega) (by omega) hB ?_
  intro A' c' w' ho' hb' hg
  exact hk A' c' w' ⟨hs' ++ [h], by simpa using ho', (h2.imp fun _ _ e => e.grownR (h1.mono hB2) hg).snoc (hb.grownR (h1.mono hB2) hg)⟩ hb' hg
set_option maxHeartbeats 8000000 in
set_option maxRecDepth 100000 in
theorem rsetn_any {B L n c n2 c2 : Nat} {A A2 : Option Addr} {qs : List Bq} {t : ByteArray} {ps : List Cn} {w : World} (h : ListN B L w A n c qs) (hr : Rises qs) (hb : OwnN B L w (t, (A2, n2, c2)) (t, ps)) (hn : n ≤ 1073741824) (hB : B ≤ w.heap.size) :
    Calls Tryz.prog 58 #[.slice A n c, .agg #[.string t, .slice A2 n2 c2]] w (fun e w' => ∃ A' m c', e = .returned (.slice A' m c') ∧ ListN B L w' A' m c' (insq qs (t, ps)) ∧ Below w.heap.size w w') := by
  obtain ⟨p, hp⟩ := posOf_ex hr t
  have H := Lib.hid h
  have HNQ : Hid (n = qs.length) := h.len
  have HBB := Lib.hid hb
  have HP := Lib.hid hp
  have HR := Lib.hid hr
  obtain ⟨q0, hq0⟩ : ∃ q0, q0 = if nat_ (qs.map (·.1)) p = t then p + 1 else p := ⟨_, rfl⟩
  have hq01 : p ≤ q0 ∧ q0 ≤ p + 1 := by rw [hq0]; split <;> omega
  have HQ0 := Lib.hid hq0
  have hpn : p ≤ n := by rw [HNQ.out]; exact hp.1
  clear h hr hb hp hq0
  have HW : Hid (Below w.heap.size w (World.alloc w (.cells #[.string t, .slice A2 n2 c2] 89))) := belowA _ _
  have HT0 : Hid (At (World.alloc w (.cells #[.string t, .slice A2 n2 c2] 89)) ⟨w.heap.size, 0, none⟩ (.string t)) := At.box (i := 0) _ _ rfl
  have HT1 : Hid (At (World.alloc w (.cells #[.string t, .slice A2 n2 c2] 89)) ⟨w.heap.size, 1, none⟩ (.slice A2 n2 c2)) := At.box (i := 1) _ _ rfl
  obtain ⟨w0, hw0⟩ : ∃ w0, w0 = World.alloc w (.cells #[.string t, .slice A2 n2 c2] 89) := ⟨_, rfl⟩
  have hS0 : Hid (w0.heap.size = w.heap.size + 1) := by rw [hw0]; show _ = _; simp
  rw [← hw0] at HW HT0 HT1
  go_enter Tryz.func58, Tryz.ntmps58
  go_wp2_with fail
  rw [← hw0]
  clear hw0
  go_wp2
  have HS1 : Hid (B ≤ w0.heap.size) := by have := hS0.out; show B ≤ _; omega
  go_loopw [5, 6, 12] (fun ov dv kv wr => ∃ (k m : Nat) (A' : Option Addr) (c' : Nat), Hid (Below w0.heap.size w0 wr ∧ ListNS B w0.heap.size L wr A' m c' (outk qs (t, ps) p q0 k)) ∧ k ≤ n ∧ m ≤ k + 1 ∧ ov = .slice A' m c' ∧ dv = .bool (decide (p < k)) ∧ kv = .int .i64 (k : Int)) (fun _ _ kv _ => n - (intOf kv).toNat)
  case atStart => exact ⟨0, 0, _, _, ⟨belowA _ _, [], by have := RowK.lit (k := 2) (T := 89) (B := w0.heap.size) (b := w.heap.size + 1) w0 0 [] hS0.out.symm rfl (by omega) (Nat.le_refl _); simpa using this, by simpa [outk] using All2.nil⟩, Nat.zero_le _, Nat.zero_le _, rfl, by simp, rfl⟩
  case round =>
    obtain ⟨k, m, A', c', hI, hk, hm, rfl, rfl, rfl⟩ := hrel
    by_cases hlt : k < n
    · obtain ⟨x, ex⟩ : ∃ x, qs[k]? = some x := ⟨_, List.getElem?_eq_getElem (by have := HNQ.out; omega)⟩
      have hnx : nat_ (qs.map (·.1)) k = x.1 := by unfold nat_; rw [List.getElem?_map, ex]; rfl
      have HX : Hid (∃ (hs : List Hb) (hd : Hb), RdK 2 wr A n c (hs.flatMap hbv) ∧ hs[k]? = some hd ∧ OwnN B L wr hd x) := by
        obtain ⟨hs, k1, k2⟩ := (H.out.below HW.out).below hI.out.1
        obtain ⟨hd, x', e1, e2, e3⟩ := k2.at (i := k) (by have := HNQ.out; omega)
        have : x = x' := by have := ex.symm.trans e2; injection this
        subst this
        exact ⟨hs, hd, k1.rd, e1, e3⟩
      obtain ⟨hs, hd, k1, k2, k3⟩ := HX.out
      obtain ⟨b, off, e, hbl, g0, g1⟩ := k1.at2 k2
      subst e
      obtain ⟨nm0, A1, n1, c1⟩ := hd
      have hnm0 : nm0 = x.1 := k3.1
      subst hnm0
      have HO := Lib.hid k3
      have HXE := Lib.hid ex
      have x0 := g0.1
      have x1 := g1.1
      simp only [shv] at x1
      have t0 := ((HT0.out.below hI.out.1).below (belowA wr (.cells #[.string x.1, .slice A1 n1 c1] 89))).1
      have t1 := ((HT1.out.below hI.out.1).below (belowA wr (.cells #[.string x.1, .slice A1 n1 c1] 89))).1
      have i1 : (0 : Int) ≤ (k : Int) := by omega
      have i2 : (k : Int) < (n : Int) := by omega
      have HZ : Hid (w0.heap.size ≤ wr.heap.size) := hI.out.1.size
      clear HX k1 k2 k3 g0 g1 ex
      rcases Nat.lt_trichotomy k p with hkp | hkp | hkp
      · have hc : bcmp x.1 t < 0 := by rw [← hnx]; exact HP.out.2.1 k hkp
        have d1 : decide (p < k) = false := decide_eq_false (by omega)
        have d2 : Op.bytesLess x.1.toList t.toList = true := by rw [bcmp_lt, decide_eq_true hc]
        have d3 : (x.1.toList == t.toList) = false := by rw [list_eq_b, decide_eq_false (fun e => by rw [bcmp_eq.2 e] at hc; omega)]
        have HST : Hid (outk qs (t, ps) p q0 (k + 1) = outk qs (t, ps) p q0 k ++ [x]) := outk_step HXE.out hq01 (.inl hkp)
        have d4 : decide (p < k + 1) = false := decide_eq_false (by omega)
        clear hc hnx
        rw [d1]
        go_wp2_with (at_builtin; (refine wpList_appN26 (x.1, (A1, n1, c1)) rfl (.tmp 34) (.tmp 36) rfl rfl rfl ((hI.out.2.below (belowA _ _)).below (belowA _ _)) (RowK.lit (k := 2) (T := 89) (B := 0) (World.alloc wr (.cells #[.string x.1, .slice A1 n1 c1] 89)) 1 [.string x.1, .slice A1 n1 c1] (by simp) rfl (by omega) (Nat.zero_le _)).rd ((HO.out.below (belowA _ _)).below (belowA _ _)) (by omega) HS1.out (by have := HZ.out; simp; omega) ?_); intro A4 c4 w4 hl4 hb4 _; have HN : Hid (Below w0.heap.size w0 w4 ∧ ListNS B w0.heap.size L w4 A4 (m + 1) c4 (outk qs (t, ps) p q0 (k + 1))) := ⟨((hI.out.1.alloc HZ.out _).alloc (by have := HZ.out; simp; omega) _).trans hb4, (by rw [HST.out]; exact hl4)⟩; clear hl4 hb4)
        go_roundw
        case rel => exact ⟨k + 1, m + 1, A4, c4, HN, by omega, by omega, rfl, by rw [d4], by go_num⟩
        case measure => simp [intOf]; omega
      · subst hkp
        have hc : 0 ≤ bcmp x.1 t := by rw [← hnx]; exact HP.out.2.2 k (Nat.le_refl _) (by have := HNQ.out; omega)
        have d1 : decide (k < k) = false := decide_eq_false (Nat.lt_irrefl _)
        have d2 : Op.bytesLess x.1.toList t.toList = false := by rw [bcmp_lt, decide_eq_false (by omega)]
        have d4 : decide (k < k + 1) = true := decide_eq_true (by omega)
        have hrow : Hid (some wr.heap.size ≠ (Value.slice A' m c').ownBlock) := fun e => by
          obtain ⟨hs2, k1, _⟩ := hI.out.2
          have := World.ownsRow.lt k1 _ e.symm
          omega
        have HBX : Hid (OwnN B L wr (t, (A2, n2, c2)) (t, ps)) := (HBB.out.below HW.out).below hI.out.1
        have HO0 : Hid (outk qs (t, ps) k q0 k = qs.take k) := by unfold outk; rw [if_pos (Nat.le_refl _)]; rfl
        have hmk : m ≤ k := by
          have h5 := hI.out.2.len
          rw [HO0.out, List.length_take] at h5
          omega
        have e0 : (World.alloc wr (.cells #[.string x.1, .slice A1 n1 c1] 89)).cell? ⟨wr.heap.size, 0, none⟩ = some (.string x.1) := (At.box (i := 0) _ _ rfl).1
        have e1 : (World.alloc wr (.cells #[.string x.1, .slice A1 n1 c1] 89)).cell? ⟨wr.heap.size, 1, none⟩ = some (.slice A1 n1 c1) := (At.box (i := 1) _ _ rfl).1
        have HE := Lib.hid (And.intro e0 e1)
        clear e0 e1 hc hnx
        rw [d1]
        by_cases he : x.1 = t
        · have HST : Hid (outk qs (t, ps) k q0 (k + 1) = outk qs (t, ps) k q0 k ++ [(t, ps)]) := by
            show _ = _
            rw [HO0.out]
            unfold outk
            have hq : q0 = k + 1 := by rw [HQ0.out, if_pos (by rw [nat_eq HXE.out]; exact he)]
            rw [if_neg (by omega), hq, List.drop_of_length_le (by rw [List.length_take]; omega), List.append_nil]
          have d3 : (x.1.toList == t.toList) = true := by rw [list_eq_b, decide_eq_true he]
          clear he
          go_wp2_with (at_builtin; (refine wpList_appN26 (t, (A2, n2, c2)) rfl (.tmp 25) (.tmp 27) rfl rfl rfl ((hI.out.2.below (belowA _ _)).below (belowA _ _)) (RowK.lit (k := 2) (T := 89) (B := 0) (World.alloc wr (.cells #[.string x.1, .slice A1 n1 c1] 89)) 1 [.string t, .slice A2 n2 c2] (by simp) rfl (by omega) (Nat.zero_le _)).rd ((HBX.out.below (belowA _ _)).below (belowA _ _)) (by omega) HS1.out (by have := HZ.out; simp; omega) ?_); intro A4 c4 w4 hl4 hb4 hg4; have HB4 : Hid (Below w0.heap.size w0 w4) := ((hI.out.1.alloc HZ.out _).alloc (by have := HZ.out; simp; omega) _).trans hb4; have HL4 := Lib.hid hl4; have HO4 : Hid (OwnN B L w4 (x.1, (A1, n1, c1)) x) := (by obtain ⟨hs2, k1, _⟩ := (hI.out.2.below (belowA wr (.cells #[.string x.1, .slice A1 n1 c1] 89))).below (belowA _ (.cells ([.string t, .slice A2 n2 c2] : List Value).toArray 89)); exact ((HO.out.below (belowA _ _)).below (belowA _ _)).grownR (k1.mono HS1.out) hg4); have y0 : w4.cell? ⟨wr.heap.size, 0, none⟩ = some (.string x.1) := hg4.cell ((belowA _ _).cell (p := ⟨wr.heap.size, 0, none⟩) (by simp) |>.trans HE.out.1) hrow.out; have y1 : w4.cell? ⟨wr.heap.size, 1, none⟩ = some (.slice A1 n1 c1) := hg4.cell ((belowA _ _).cell (p := ⟨wr.heap.size, 1, none⟩) (by simp) |>.trans HE.out.2) hrow.out; have z0 := (HT0.out.below HB4.out).1; have z1 := (HT1.out.below HB4.out).1; clear hl4 hb4 hg4)
          have HN : Hid (Below w0.heap.size w0 w4 ∧ ListNS B w0.heap.size L w4 A4 (m + 1) c4 (outk qs (t, ps) k q0 (k + 1))) := ⟨HB4.out, by rw [HST.out]; exact HL4.out⟩
          go_roundw
          case rel => exact ⟨k + 1, m + 1, A4, c4, HN, by omega, by omega, rfl, by rw [d4], by go_num⟩
          case measure => simp [intOf]; omega
        · have HST : Hid (outk qs (t, ps) k q0 (k + 1) = outk qs (t, ps) k q0 k ++ [(t, ps)] ++ [x]) := by
            show _ = _
            rw [HO0.out]
            unfold outk
            have hq : q0 = k := by rw [HQ0.out, if_neg (by rw [nat_eq HXE.out]; exact he)]
            have hkl := (List.getElem?_eq_some_iff.1 HXE.out).1
            rw [if_neg (by omega), hq, take_snoc HXE.out, List.drop_append_of_le_length (by rw [List.length_take]; omega), List.drop_of_length_le (by rw [List.length_take]; omega), List.nil_append]
          have d3 : (x.1.toList == t.toList) = false := by rw [list_eq_b, decide_eq_false he]
          clear he
          go_wp2_with (first
            | (at_builtin; (refine wpList_appN26 (t, (A2, n2, c2)) rfl (.tmp 25) (.tmp 27) rfl rfl rfl ((hI.out.2.below (belowA _ _)).below (belowA _ _)) (RowK.lit (k := 2) (T := 89) (B := 0) (World.alloc wr (.cells #[.string x.1, .slice A1 n1 c1] 89)) 1 [.string t, .slice A2 n2 c2] (by simp) rfl (by omega) (Nat.zero_le _)).rd ((HBX.out.below (belowA _ _)).below (belowA _ _)) (by omega) HS1.out (by have := HZ.out; simp; omega) ?_); intro A4 c4 w4 hl4 hb4 hg4; have HB4 : Hid (Below w0.heap.size w0 w4) := ((hI.out.1.alloc HZ.out _).alloc (by have := HZ.out; simp; omega) _).trans hb4; have HL4 := Lib.hid hl4; have HO4 : Hid (OwnN B L w4 (x.1, (A1, n1, c1)) x) := (by obtain ⟨hs2, k1, _⟩ := (hI.out.2.below (belowA wr (.cells #[.string x.1, .slice A1 n1 c1] 89))).below (belowA _ (.cells ([.string t, .slice A2 n2 c2] : List Value).toArray 89)); exact ((HO.out.below (belowA _ _)).below (belowA _ _)).grownR (k1.mono HS1.out) hg4); have y0 : w4.cell? ⟨wr.heap.size, 0, none⟩ = some (.string x.1) := hg4.cell ((belowA _ _).cell (p := ⟨wr.heap.size, 0, none⟩) (by simp) |>.trans HE.out.1) hrow.out; have y1 : w4.cell? ⟨wr.heap.size, 1, none⟩ = some (.slice A1 n1 c1) := hg4.cell ((belowA _ _).cell (p := ⟨wr.heap.size, 1, none⟩) (by simp) |>.trans HE.out.2) hrow.out; have z0 := (HT0.out.below HB4.out).1; have z1 := (HT1.out.below HB4.out).1; clear hl4 hb4 hg4)
            | (at_builtin; (refine wpList_appN26 (x.1, (A1, n1, c1)) rfl (.tmp 34) (.tmp 36) rfl rfl rfl (HL4.out.below (belowA _ _)) (RowK.lit (k := 2) (T := 89) (B := 0) w4 1 [.string x.1, .slice A1 n1 c1] (by simp) rfl (by omega) (Nat.zero_le _)).rd (HO4.out.below (belowA _ _)) (by omega) HS1.out (by have := HB4.out.size; simp; omega) ?_); intro A5 c5 w5 hl5 hb5 _; have HN : Hid (Below w0.heap.size w0 w5 ∧ ListNS B w0.heap.size L w5 A5 (m + 1 + 1) c5 (outk qs (t, ps) k q0 (k + 1))) := ⟨(HB4.out.alloc HB4.out.size _).trans hb5, (by rw [HST.out]; exact hl5)⟩; clear hl5 hb5))
          go_roundw
          case rel => exact ⟨k + 1, m + 1 + 1, A5, c5, HN, by omega, by omega, rfl, by rw [d4], by go_num⟩
          case measure => simp [intOf]; omega
      · have hc : bcmp x.1 t ≠ 0 := fun e => by
          have h1 := HP.out.2.2 p (Nat.le_refl _) (by have := HNQ.out; omega)
          have h2 := HR.out p k hkp (by have := HNQ.out; omega)
          rw [hnx, bcmp_eq.1 e] at h2
          omega
        have d1 : decide (p < k) = true := decide_eq_true hkp
        have d3 : (x.1.toList == t.toList) = false := by rw [list_eq_b, decide_eq_false (fun e => hc (bcmp_eq.2 e))]
        have HST : Hid (outk qs (t, ps) p q0 (k + 1) = outk qs (t, ps) p q0 k ++ [x]) := outk_step HXE.out hq01 (.inr ⟨by omega, hkp⟩)
        have d4 : decide (p < k + 1) = true := decide_eq_true (by omega)
        clear hc hnx
        rw [d1]
        go_wp2_with (at_builtin; (refine wpList_appN26 (x.1, (A1, n1, c1)) rfl (.tmp 34) (.tmp 36) rfl rfl rfl ((hI.out.2.below (belowA _ _)).below (belowA _ _)) (RowK.lit (k := 2) (T := 89) (B := 0) (World.alloc wr (.cells #[.string x.1, .slice A1 n1 c1] 89)) 1 [.string x.1, .slice A1 n1 c1] (by simp) rfl (by omega) (Nat.zero_le _)).rd ((HO.out.below (belowA _ _)).below (belowA _ _)) (by omega) HS1.out (by have := HZ.out; simp; omega) ?_); intro A4 c4 w4 hl4 hb4 _; have HN : Hid (Below w0.heap.size w0 w4 ∧ ListNS B w0.heap.size L w4 A4 (m + 1) c4 (outk qs (t, ps) p q0 (k + 1))) := ⟨((hI.out.1.alloc HZ.out _).alloc (by have := HZ.out; simp; omega) _).trans hb4, (by rw [HST.out]; exact hl4)⟩; clear hl4 hb4)
        go_roundw
        case rel => exact ⟨k + 1, m + 1, A4, c4, HN, by omega, by omega, rfl, by rw [d4], by go_num⟩
        case measure => simp [intOf]; omega
    · obtain rfl : k = n := by omega
      rcases Nat.lt_or_ge p k with hpk | hpk
      · have hfin : outk qs (t, ps) p q0 k = insq qs (t, ps) := by
          rw [insq_out HP.out (by have := HNQ.out; omega), ← HQ0.out]
          unfold outk
          rw [if_neg (by omega), List.take_of_length_le (l := qs) (i := k) (by have := HNQ.out; omega)]
        have HRES : Hid (ListN B L wr A' m c' (insq qs (t, ps)) ∧ Below w.heap.size w wr) := by
          obtain ⟨hs2, k1, k2⟩ := hI.out.2
          rw [hfin] at k2
          exact ⟨⟨hs2, k1.mono HS1.out, k2⟩, HW.out.trans (hI.out.1.mono (by have := hS0.out; omega))⟩
        have d1 : decide (p < k) = true := decide_eq_true hpk
        rw [d1]
        clear hI hfin
        go_wp2
        go_ret
        exact ⟨A', m, c', rfl, HRES.out.1, HRES.out.2⟩
      · obtain rfl : p = k := by omega
        have hfin : outk qs (t, ps) p q0 p ++ [(t, ps)] = insq qs (t, ps) := by
          have h1 := (insq_pos qs (t, ps) p HP.out).2 (fun hf => by have := hf.1; have := HNQ.out; omega)
          rw [h1]
          unfold outk
          rw [if_pos (Nat.le_refl _), List.drop_of_length_le (by have := HNQ.out; omega), List.append_nil]
        have HFI := Lib.hid hfin
        have d1 : decide (p < p) = false := decide_eq_false (Nat.lt_irrefl _)
        have HBX : Hid (OwnN B L wr (t, (A2, n2, c2)) (t, ps)) := (HBB.out.below HW.out).below hI.out.1
        have t0 := (HT0.out.below hI.out.1).1
        have t1 := (HT1.out.below hI.out.1).1
        have HZ : Hid (w0.heap.size ≤ wr.heap.size) := hI.out.1.size
        clear hfin
        rw [d1]
        go_wp2_with (at_builtin; (refine wpList_appN26 (t, (A2, n2, c2)) rfl (.tmp 41) (.tmp 43) rfl rfl rfl (hI.out.2.below (belowA _ _)) (RowK.lit (k := 2) (T := 89) (B := 0) wr 1 [.string t, .slice A2 n2 c2] (by simp) rfl (by omega) (Nat.zero_le _)).rd (HBX.out.below (belowA _ _)) (by omega) HS1.out (by have := HZ.out; simp; omega) ?_); intro A4 c4 w4 hl4 hb4 _; have HN : Hid (Below w0.heap.size w0 w4 ∧ ListNS B w0.heap.size L w4 A4 (m + 1) c4 (insq qs (t, ps))) := ⟨(hI.out.1.alloc HZ.out _).trans hb4, (by rw [← HFI.out]; exact hl4)⟩; clear hl4 hb4)
        have HRES : Hid (ListN B L w4 A4 (m + 1) c4 (insq qs (t, ps)) ∧ Below w.heap.size w w4) := by
          obtain ⟨hs2, k1, k2⟩ := HN.out.2
          exact ⟨⟨hs2, k1.mono HS1.out, k2⟩, HW.out.trans (HN.out.1.mono (by have := hS0.out; omega))⟩
        go_ret
        exact ⟨A4, m + 1, c4, rfl, HRES.out.1, HRES.out.2⟩
end Go.Proofs.YtphofjinncbaaaaGreat
namespace Go.Proofs.YtphofjinncbaaaaGreat
open Go.RowKit
set_option linter.unusedVariables false
set_option linter.unusedSimpArgs false

set_option maxHeartbeats 1000000 in
theorem seqq_any {A A2 : Option Addr} {n c m c2 : Nat} {xs ys : List Nat} {w : World} (h : Rd .u64 w A n c xs) (h' : Rd .u64 w A2 m c2 ys) (hn : n ≤ 1099511627776) :
    Calls Tryz.prog 179 #[.slice A n c, .slice A2 m c2] w (Quiet (.bool (decide (xs = ys))) w) := by
  have H := Lib.hid h
  have H' := Lib.hid h'
  clear h h'
  by_cases hnm : n = m
  · subst hnm
    have q1 : ((n : Int) != (n : Int)) = false := by simp
    go_enter Tryz.func179, Tryz.ntmps179
    go_wp2
    go_loopw [13] (fun i wr => ∃ (k q : Nat), Hid ((∀ j, j < k → nth xs j = nth ys j) ∧ wr = w.drewN q) ∧ k ≤ n ∧ i = .int .i64 k) (fun i _ => n - (intOf i).toNat)
    case atStart => exact ⟨0, 0, ⟨fun j hj => by omega, rfl⟩, Nat.zero_le _, rfl⟩
    case round =>
      obtain ⟨k, q, hI, hk, rfl⟩ := hrel
      obtain ⟨hE, hw⟩ := hI.out
      have HE := Lib.hid hE
      have HW := Lib.hid hw
      have R1 : Hid (Rd .u64 wr A n c xs) := by rw [hw]; exact H.out.drewN q
      have R2 : Hid (Rd .u64 wr A2 n c2 ys) := by rw [hw]; exact H'.out.drewN q
      clear hE hI hw
      by_cases hlt : k < n
      · obtain ⟨b, off, ea, hb, hca⟩ := R1.out.at hlt
        obtain ⟨b2, off2, ea2, hb2, hcb⟩ := R2.out.at hlt
        subst ea ea2
        have i1 : (0 : Int) ≤ (k : Int) := by omega
        have i2 : (k : Int) < (n : Int) := by omega
        have hca' : ∀ w', Grow none wr.drew w' → w'.cell? ⟨b, off + k, none⟩ = some (.int .u64 ((nth xs k : Nat) : Int)) := fun w' h => h.cell hca (by simp)
        have hcb' : ∀ w', Grow none wr.drew w' → w'.cell? ⟨b2, off2 + k, none⟩ = some (.int .u64 ((nth ys k : Nat) : Int)) := fun w' h => h.cell hcb (by simp)
        by_cases hne : nth xs k = nth ys k
        · have hq : (((nth xs k : Nat) : Int) != ((nth ys k : Nat) : Int)) = false := by simp; omega
          have HN := Lib.hid hne
          clear hne
          go_wp2
          refine wp_region_grow none [(true, 0), (true, 1), (true, 2), (true, 3), (true, 4), (true, 5), (true, 6), (true, 7), (true, 8)] (by kernel_rfl) (by kernel_rfl) ?_
          repeat (refine ord_pas (by rfl) (fun K hK => ?_); go_simp; refine hK _ _ (fun w' hw' => (by first | (go_simp; done) | (go_simp; intro hh; cases hh))) ?_; clear hK K)
          refine ord_nil ?_
          clear hca' hcb'
          go_wp2
          go_roundw
          case rel =>
            refine ⟨k + 1, q + 1, ⟨fun j hj => ?_, by rw [HW.out]; rfl⟩, by omega, by go_num⟩
            by_cases hjk : j = k
            · subst hjk; exact HN.out
            · exact HE.out j (by omega)
          case measure => simp [intOf]; omega
        · have hq : (((nth xs k : Nat) : Int) != ((nth ys k : Nat) : Int)) = true := by simp; omega
          have HN := Lib.hid hne
          clear hne
          go_wp2
          refine wp_region_grow none [(true, 0), (true, 1), (true, 2), (true, 3), (true, 4), (true, 5), (true, 6), (true, 7), (true, 8)] (by kernel_rfl) (by kernel_rfl) ?_
          repeat (refine ord_pas (by rfl) (fun K hK => ?_); go_simp; refine hK _ _ (fun w' hw' => (by first | (go_simp; done) | (go_simp; intro hh; cases hh))) ?_; clear hK K)
          refine ord_nil ?_
          clear hca' hcb'
          go_wp2
          go_ret
          refine ⟨?_, q + 1, by rw [HW.out]; rfl⟩
          have : xs ≠ ys := fun e => HN.out (by rw [e])
          simp [this]
      · obtain rfl : k = n := by omega
        go_wp2
        go_ret
        refine ⟨?_, q, HW.out⟩
        have : xs = ys := eq_of_nth (by rw [H.out.len, H'.out.len]) (fun i hi => HE.out i (by rw [H.out.len] at hi; exact hi))
        simp [this]
  · have q1 : ((n : Int) != (m : Int)) = true := by simp; omega
    have HM := Lib.hid hnm
    clear hnm
    go_enter Tryz.func179, Tryz.ntmps179
    go_wp2
    go_ret
    refine ⟨?_, 0, rfl⟩
    have : xs ≠ ys := fun e => HM.out (by rw [← H.out.len, ← H'.out.len, e])
    simp [this]
theorem seqd_any {A A2 : Option Addr} {n c m c2 : Nat} {xs ys : List Nat} {d : Bool} {w : World} (h : Rd .u64 w A n c xs) (h' : Rd .u64 w A2 m c2 ys) (hd : decide (xs = ys) = d) (hn : n ≤ 1099511627776) :
    Calls Tryz.prog 179 #[.slice A n c, .slice A2 m c2] w (Keeps (.bool d) w) :=
  (seqq_any h h' hn).mono fun _ _ ⟨he, q, hq⟩ => ⟨by rw [he, hd], by rw [hq]; exact below_drewN _ _⟩
set_option maxHeartbeats 1000000 in
theorem qsameRat_any {A1 A2 B1 B2 : Option Addr} {n1 c1 n2 c2 m1 d1 m2 d2 : Nat} {s t : Bool} {q q2 : Cn} {w : World} (hs : Hid (s = decide (q.1 < 0))) (ht : Hid (t = decide (q2.1 < 0))) (h1 : Rd .u64 w A1 n1 c1 (dg W q.1.natAbs)) (h2 : Rd .u64 w A2 n2 c2 (dg W q.2)) (h3 : Rd .u64 w B1 m1 d1 (dg W q2.1.natAbs)) (h4 : Rd .u64 w B2 m2 d2 (dg W q2.2)) (hn1 : n1 ≤ 1099511627776) (hn2 : n2 ≤ 1099511627776) :
    Calls Tryz.prog 152 #[.agg #[.bool s, .slice A1 n1 c1, .slice A2 n2 c2], .agg #[.bool t, .slice B1 m1 d1, .slice B2 m2 d2]] w (Keeps (.bool (decide (q = q2))) w) := by
  have H1 := Lib.hid h1
  have H2 := Lib.hid h2
  have H3 := Lib.hid h3
  have H4 := Lib.hid h4
  clear h1 h2 h3 h4
  go_enter Tryz.func152, Tryz.ntmps152
  have e0 := ((At.boxc (i := 0) (v := .bool s) (t := 62) (b := w.heap.size) w #[.bool s, .slice A1 n1 c1, .slice A2 n2 c2] rfl (by simp)).below ((Below.refl _ _).alloc (Nat.le_refl _) (.cells #[.bool t, .slice B1 m1 d1, .slice B2 m2 d2] 62))).1
  have e1 := ((At.boxc (i := 1) (v := .slice A1 n1 c1) (t := 62) (b := w.heap.size) w #[.bool s, .slice A1 n1 c1, .slice A2 n2 c2] rfl (by simp)).below ((Below.refl _ _).alloc (Nat.le_refl _) (.cells #[.bool t, .slice B1 m1 d1, .slice B2 m2 d2] 62))).1
  have e2 := (At.boxc (i := 0) (v := .bool t) (t := 62) (b := w.heap.size + 1) (World.alloc w (.cells #[.bool s, .slice A1 n1 c1, .slice A2 n2 c2] 62)) #[.bool t, .slice B1 m1 d1, .slice B2 m2 d2] rfl (by simp)).1
  have e3 := (At.boxc (i := 1) (v := .slice B1 m1 d1) (t := 62) (b := w.heap.size + 1) (World.alloc w (.cells #[.bool s, .slice A1 n1 c1, .slice A2 n2 c2] 62)) #[.bool t, .slice B1 m1 d1, .slice B2 m2 d2] rfl (by simp)).1
  by_cases hst : s = t
  · have q0 : (s == t) = true := by simp [hst]
    obtain ⟨d, hd⟩ : ∃ d, decide (dg W q.1.natAbs = dg W q2.1.natAbs) = d := ⟨_, rfl⟩
    have HD := Lib.hid hd
    have HST := Lib.hid hst
    clear hd hst
    go_wp2_with fail
    refine (seqd_any ((H1.out.below ((Below.refl _ _).alloc (Nat.le_refl _) (.cells #[.bool s, .slice A1 n1 c1, .slice A2 n2 c2] 62))).below ((Below.refl _ _).alloc (Nat.le_refl _) (.cells #[.bool t, .slice B1 m1 d1, .slice B2 m2 d2] 62))) ((H3.out.below ((Below.refl _ _).alloc (Nat.le_refl _) (.cells #[.bool s, .slice A1 n1 c1, .slice A2 n2 c2] 62))).below ((Below.refl _ _).alloc (Nat.le_refl _) (.cells #[.bool t, .slice B1 m1 d1, .slice B2 m2 d2] 62))) HD.out hn1).mono ?_
    rintro e w1 ⟨rfl, hb1⟩
    clear e0 e1 e2 e3
    cases d
    · have HF : Hid (decide (q = q2) = false) := by
        show _ = _
        rw [decide_eq_false_iff_not, canq_eq]
        rintro ⟨⟨_, h⟩, _⟩
        exact of_decide_eq_false HD.out h
      have HB : Hid (Below w.heap.size w w1) := (bt (bt ((Below.refl _ _).alloc (Nat.le_refl _) (.cells #[.bool s, .slice A1 n1 c1, .slice A2 n2 c2] 62)) ((Below.refl _ _).alloc (Nat.le_refl _) (.cells #[.bool t, .slice B1 m1 d1, .slice B2 m2 d2] 62))) hb1)
      go_wp2
      go_ret
      exact ⟨by rw [HF.out]; rfl, HB.out⟩
    · obtain ⟨d2', hd2⟩ : ∃ d, decide (dg W q.2 = dg W q2.2) = d := ⟨_, rfl⟩
      have HF : Hid (decide (q = q2) = d2') := by
        rw [← hd2]
        show _ = _
        rw [decide_eq_decide, canq_eq]
        have h5 := of_decide_eq_true HD.out
        have h6 := HST.out
        rw [hs.out, ht.out] at h6
        exact ⟨fun h => h.2, fun h => ⟨⟨h6, h5⟩, h⟩⟩
      have HD2 := Lib.hid hd2
      clear hd2
      have e4 := (((At.boxc (i := 2) (v := .slice A2 n2 c2) (t := 62) (b := w.heap.size) w #[.bool s, .slice A1 n1 c1, .slice A2 n2 c2] rfl (by simp)).below ((Below.refl _ _).alloc (Nat.le_refl _) (.cells #[.bool t, .slice B1 m1 d1, .slice B2 m2 d2] 62))).below hb1).1
      have e5 := ((At.boxc (i := 2) (v := .slice B2 m2 d2) (t := 62) (b := w.heap.size + 1) (World.alloc w (.cells #[.bool s, .slice A1 n1 c1, .slice A2 n2 c2] 62)) #[.bool t, .slice B1 m1 d1, .slice B2 m2 d2] rfl (by simp)).below hb1).1
      go_wp2_with fail
      refine (seqd_any (((H2.out.below ((Below.refl _ _).alloc (Nat.le_refl _) (.cells #[.bool s, .slice A1 n1 c1, .slice A2 n2 c2] 62))).below ((Below.refl _ _).alloc (Nat.le_refl _) (.cells #[.bool t, .slice B1 m1 d1, .slice B2 m2 d2] 62))).below hb1) (((H4.out.below ((Below.refl _ _).alloc (Nat.le_refl _) (.cells #[.bool s, .slice A1 n1 c1, .slice A2 n2 c2] 62))).below ((Below.refl _ _).alloc (Nat.le_refl _) (.cells #[.bool t, .slice B1 m1 d1, .slice B2 m2 d2] 62))).below hb1) HD2.out hn2).mono ?_
      rintro e w2 ⟨rfl, hb2⟩
      have HB : Hid (Below w.heap.size w w2) := (bt (bt (bt ((Below.refl _ _).alloc (Nat.le_refl _) (.cells #[.bool s, .slice A1 n1 c1, .slice A2 n2 c2] 62)) ((Below.refl _ _).alloc (Nat.le_refl _) (.cells #[.bool t, .slice B1 m1 d1, .slice B2 m2 d2] 62))) hb1) hb2)
      clear e4 e5
      go_wp2
      go_ret
      exact ⟨by rw [HF.out]; rfl, HB.out⟩
  · have q0 : (s == t) = false := by simp [hst]
    have HF : Hid (decide (q = q2) = false) := by
      show _ = _
      rw [decide_eq_false_iff_not]
      rintro rfl
      exact hst (hs.out.trans ht.out.symm)
    clear hst
    have HB : Hid (Below w.heap.size w (World.alloc (World.alloc w (.cells #[.bool s, .slice A1 n1 c1, .slice A2 n2 c2] 62)) (.cells #[.bool t, .slice B1 m1 d1, .slice B2 m2 d2] 62))) := (bt ((Below.refl _ _).alloc (Nat.le_refl _) (.cells #[.bool s, .slice A1 n1 c1, .slice A2 n2 c2] 62)) ((Below.refl _ _).alloc (Nat.le_refl _) (.cells #[.bool t, .slice B1 m1 d1, .slice B2 m2 d2] 62)))
    go_wp2
    go_ret
    exact ⟨by rw [HF.out]; rfl, HB.out⟩
set_option maxHeartbeats 4000000 in
theorem eqf_any {A A2 : Option Addr} {n c n2 c2 L L2 : Nat} {qs qs2 : List Cn} {w : World} (h : PolyC L w (.slice A n c) qs) (h' : PolyC L2 w (.slice A2 n2 c2) qs2) (hL : L ≤ 1099511627776) (hn : n ≤ 1073741824) :
    Calls Tryz.prog 151 #[.slice A n c, .slice A2 n2 c2, .func (.func 152) #[] #[]] w (Keeps (.bool (decide (qs = qs2))) w) := by
  have H := Lib.hid h
  have H2 := Lib.hid h'
  have HN1 : Hid (n = qs.length) := by obtain ⟨_, _, _, hs, e, h1, h2, h3⟩ := h; injection e with _ e2 _; show _ = _; rw [e2]; exact h2
  have HN2 : Hid (n2 = qs2.length) := by obtain ⟨_, _, _, hs, e, h1, h2, h3⟩ := h'; injection e with _ e2 _; show _ = _; rw [e2]; exact h2
  clear h h'
  by_cases hnn : n = n2
  · subst hnn
    go_enter Tryz.func151, Tryz.ntmps151
    go_wp2
    go_loopw [17] (fun kv wr => ∃ (i : Nat), Hid (Below w.heap.size w wr ∧ qs.take i = qs2.take i) ∧ i ≤ n ∧ kv = .int .i64 (i : Int)) (fun kv _ => n - (intOf kv).toNat)
    case atStart => exact ⟨0, ⟨Below.refl _ _, by simp⟩, Nat.zero_le _, rfl⟩
    case round =>
      obtain ⟨i, hI, hi, rfl⟩ := hrel
      by_cases hlt : i < n
      · obtain ⟨b, off, s, A1, n1, c1, A3, n3, c3, q, e, hb, eq, hs, x0, x1, x2, ⟨k1, k2⟩, k3, k4⟩ := (H.out.below hI.out.1).at (i := i) (by have := HN1.out; omega)
        have HBA := Lib.hid (belowA wr (.cells #[.bool s, .slice A1 n1 c1, .slice A3 n3 c3] 62))
        obtain ⟨b', off', t, B1, m1, d1, B3, m3, d3, q', e', hb', eq', hs', y0, y1, y2, ⟨l1, l2⟩, l3, l4⟩ := ((H2.out.below hI.out.1).below HBA.out).at (i := i) (by have := HN2.out; omega)
        subst e e'
        have HQ := Lib.hid eq
        have HQ' := Lib.hid eq'
        clear eq eq'
        have i1 : (0 : Int) ≤ (i : Int) := by omega
        have i2 : (i : Int) < (n : Int) := by omega
        have C := Lib.hid (qsameRat_any (w := World.alloc (World.alloc wr (.cells #[.bool s, .slice A1 n1 c1, .slice A3 n3 c3] 62)) (.cells #[.bool t, .slice B1 m1 d1, .slice B3 m3 d3] 62)) hs hs' ((k1.below (belowA _ _)).below (belowA _ _)) ((k3.below (belowA _ _)).below (belowA _ _)) (l1.below (belowA _ _)) (l3.below (belowA _ _)) (by omega) (by omega))
        have HBB : Hid (Below w.heap.size w (World.alloc (World.alloc wr (.cells #[.bool s, .slice A1 n1 c1, .slice A3 n3 c3] 62)) (.cells #[.bool t, .slice B1 m1 d1, .slice B3 m3 d3] 62))) := bt (bt hI.out.1 (belowA _ _)) (belowA _ _)
        clear k1 k2 k3 k4 l1 l2 l3 l4 hs hs'
        obtain ⟨d, hd⟩ : ∃ d, decide (q = q') = d := ⟨_, rfl⟩
        rw [hd] at C
        have HD := Lib.hid hd
        clear hd
        go_wp2_with fail
        refine C.out.mono ?_
        rintro e w5 ⟨rfl, hb5⟩
        have HB := Lib.hid (bt HBB.out hb5)
        clear x0 x1 x2 y0 y1 y2 hb5 C
        cases d
        · have HF : Hid (decide (qs = qs2) = false) := by
            show _ = _
            rw [decide_eq_false_iff_not]
            rintro rfl
            have h5 := HQ.out.symm.trans HQ'.out
            injection h5 with h5
            have h6 := HD.out
            rw [decide_eq_false_iff_not] at h6
            exact h6 h5
          clear hI
          go_wp2
          go_ret
          exact ⟨by rw [HF.out]; rfl, HB.out⟩
        · have HN : Hid (Below w.heap.size w w5 ∧ qs.take (i + 1) = qs2.take (i + 1)) := ⟨HB.out, take_eq_snoc HQ.out HQ'.out hI.out.2 (of_decide_eq_true HD.out)⟩
          clear hI
          go_wp2
          go_roundw
          case rel => exact ⟨i + 1, HN, by omega, by go_num⟩
          case measure => simp [intOf]; omega
      · obtain rfl : i = n := by omega
        have HT : Hid (decide (qs = qs2) = true ∧ Below w.heap.size w wr) := by
          refine ⟨?_, hI.out.1⟩
          have h5 := hI.out.2
          rw [List.take_of_length_le (by have := HN1.out; omega), List.take_of_length_le (by have := HN2.out; omega)] at h5
          simp [h5]
        clear hI
        go_wp2
        go_ret
        exact ⟨by rw [HT.out.1]; rfl, HT.out.2⟩
  · have HF : Hid (decide (qs = qs2) = false) := by
      show _ = _
      rw [decide_eq_false_iff_not]
      rintro rfl
      have := HN1.out
      have := HN2.out
      omega
    have d1 : ((n : Int) == (n2 : Int)) = false := by rw [beq_eq_false_iff_ne]; omega
    have d2 : ((n : Int) != (n2 : Int)) = true := by simp [bne, d1]
    go_enter Tryz.func151, Tryz.ntmps151
    go_wp2
    go_ret
    exact ⟨by rw [HF.out]; rfl, Below.refl _ _⟩
/-- qpoly.Norm of what has denominators -/
theorem qpn_any {A : Option Addr} {n c L : Nat} {rs : List Cf} {w : World} (h : PolyI L w (.slice A n c) rs) (hp : ∀ r ∈ rs, 0 < r.2.2) (hL1 : 1 ≤ L) (hL : L ≤ 268435456) (hn : n ≤ 1073741824) :
    Calls Tryz.prog 90 #[.slice A n c] w (fun e w' => ∃ A' n' c', e = .returned (.tuple #[.slice A' n' c', .int .i64 0]) ∧ PolyO w.heap.size L w' (.slice A' n' c') (pn rs) ∧ n' ≤ 1073741824 ∧ Below w.heap.size w w') := by
  have hl : n = rs.length := h.len
  refine (qpnorm_any h hL1 hL hn).mono fun e w' hg => ?_
  rcases hg with ⟨v, rfl, hall, hpo, hbn⟩ | ⟨rfl, hz, hbn⟩
  · obtain ⟨A2, n2, c2, hs0, rfl, hk1, hk2, hk3⟩ := id hpo
    exact ⟨A2, n2, c2, rfl, hpo, by have h1 := hpo.len.1; have h3 := pn_len rs; omega, hbn⟩
  · obtain ⟨r, h1, h2⟩ := hz.out
    have := hp r h1
    omega
set_option maxHeartbeats 1000000 in
theorem qboth_any {A A2 : Option Addr} {n c n2 c2 L : Nat} {rs rs2 : List Cf} {w : World} (h : PolyI L w (.slice A n c) rs) (hp : ∀ r ∈ rs, 0 < r.2.2) (h2 : PolyI L w (.slice A2 n2 c2) rs2) (hp2 : ∀ r ∈ rs2, 0 < r.2.2) (hL1 : 1 ≤ L) (hL : L ≤ 268435456) (hn : n ≤ 1073741824) (hn2 : n2 ≤ 1073741824) :
    Calls Tryz.prog 150 #[.slice A n c, .slice A2 n2 c2] w (fun e w' => ∃ A3 n3 c3 A4 n4 c4, e = .returned (.tuple #[.slice A3 n3 c3, .slice A4 n4 c4, .int .i64 0]) ∧ PolyC L w' (.slice A3 n3 c3) (pn rs) ∧ PolyC L w' (.slice A4 n4 c4) (pn rs2) ∧ n3 ≤ 1073741824 ∧ Below w.heap.size w w') := by
  have H := Lib.hid h
  have H2 := Lib.hid h2
  have HP := Lib.hid hp
  have HP2 := Lib.hid hp2
  clear h h2 hp hp2
  go_enter Tryz.func150, Tryz.ntmps150
  go_wp2_with fail
  refine (qpn_any H.out HP.out hL1 hL hn).mono ?_
  rintro e w1 ⟨A3, n3, c3, rfl, hp3, hn3, hb1⟩
  go_wp2_with fail
  refine (qpn_any (H2.out.below hb1) HP2.out hL1 hL hn2).mono ?_
  rintro e w2 ⟨A4, n4, c4, rfl, hp4, hn4, hb2⟩
  have HR := Lib.hid (And.intro (hp3.c.below hb2) (And.intro hp4.c (bt hb1 hb2)))
  clear hp3 hp4 hb1 hb2
  go_wp2
  go_ret3
  exact ⟨A3, n3, c3, A4, n4, c4, rfl, HR.out.1, HR.out.2.1, hn3, HR.out.2.2⟩
set_option maxHeartbeats 1000000 in
theorem qsame_any {A A2 : Option Addr} {n c n2 c2 L : Nat} {rs rs2 : List Cf} {w : World} (h : PolyI L w (.slice A n c) rs) (hp : ∀ r ∈ rs, 0 < r.2.2) (h2 : PolyI L w (.slice A2 n2 c2) rs2) (hp2 : ∀ r ∈ rs2, 0 < r.2.2) (hL1 : 1 ≤ L) (hL : L ≤ 268435456) (hn : n ≤ 1073741824) (hn2 : n2 ≤ 1073741824) :
    Calls Tryz.prog 98 #[.slice A n c, .slice A2 n2 c2] w (Keeps (.tuple #[.bool (decide (pn rs = pn rs2)), .int .i64 0]) w) := by
  have C := Lib.hid (qboth_any h hp h2 hp2 hL1 hL hn hn2)
  clear h h2 hp hp2
  obtain ⟨d, hd⟩ : ∃ d, decide (pn rs = pn rs2) = d := ⟨_, rfl⟩
  rw [hd]
  have HD := Lib.hid hd
  clear hd
  go_enter Tryz.func98, Tryz.ntmps98
  go_wp2_with fail
  refine C.out.mono ?_
  rintro e w1 ⟨A3, n3, c3, A4, n4, c4, rfl, a, b, hn3, hb1⟩
  have C2 := Lib.hid (eqf_any a b (by omega) hn3)
  have HB1 := Lib.hid hb1
  rw [HD.out] at C2
  clear a b hb1 C
  go_wp2_with fail
  refine C2.out.mono ?_
  rintro e w2 ⟨rfl, hb2⟩
  have HB := Lib.hid (bt HB1.out hb2)
  clear hb2
  go_wp2
  go_ret2
  exact ⟨rfl, HB.out⟩
theorem equal_any {A A2 : Option Addr} {n c n2 c2 L : Nat} {rs rs2 : List Cf} {w : World} (h : PolyI L w (.slice A n c) rs) (hp : ∀ r ∈ rs, 0 < r.2.2) (h2 : PolyI L w (.slice A2 n2 c2) rs2) (hp2 : ∀ r ∈ rs2, 0 < r.2.2) (hL1 : 1 ≤ L) (hL : L ≤ 268435456) (hn : n ≤ 1073741824) (hn2 : n2 ≤ 1073741824) :
    Calls Tryz.prog 61 #[.slice A n c, .slice A2 n2 c2] w (Keeps (.bool (decide (pn rs = pn rs2))) w) := by
  have C := Lib.hid (qsame_any h hp h2 hp2 hL1 hL hn hn2)
  clear h h2 hp hp2
  obtain ⟨d, hd⟩ : ∃ d, decide (pn rs = pn rs2) = d := ⟨_, rfl⟩
  rw [hd] at C ⊢
  clear hd
  go_enter Tryz.func61, Tryz.ntmps61
  go_wp2_with fail
  refine C.out.mono ?_
  rintro e w1 ⟨rfl, hb1⟩
  have HB := Lib.hid hb1
  clear hb1
  go_wp2
  go_ret
  exact ⟨by simp, HB.out⟩
end Go.Proofs.YtphofjinncbaaaaGreat
namespace Go.Proofs.YtphofjinncbaaaaGreat
open Go.RowKit
set_option linter.unusedVariables false
set_option linter.unusedSimpArgs false

theorem ofqa_snoc {acc : List Bq} {bs : List Bn} {i : Nat} {b : Bn} (h : bs[i]? = some b) : ofq acc (bs.take (i + 1)) = insq (ofq acc (bs.take i)) (b.1, pn b.2) := by
  unfold ofq
  rw [take_snoc h, List.foldl_append]
  rfl
theorem ofqa_take (acc : List Bq) (bs : List Bn) (i : Nat) : (ofq acc (bs.take i)).length ≤ (ofq acc bs).length := by
  have h := ofq_len (bs.drop i) (ofq acc (bs.take i))
  have e : ofq (ofq acc (bs.take i)) (bs.drop i) = ofq acc bs := by
    unfold ofq
    rw [← List.foldl_append, List.take_append_drop]
  rwa [e] at h
def both2 (a b : List Bn) : Prop := goodl a = true ∧ goodl b = true
def ovc (a b : List Bn) : Int := if goodl a = true then (if goodl b = true then (if 64 < (ofq (a.map fq) b).length then 12 else 0) else 3) else 3
def ovq (a b : List Bn) : List Bq := if ovc a b = 0 then ofq (a.map fq) b else []
section
variable {a b : List Bn}
theorem ovc_a (h : goodl a = false) : ovc a b = 3 := by unfold ovc; rw [if_neg (by rw [h]; decide)]
theorem ovc_b (h : goodl a = true) (h2 : goodl b = false) : ovc a b = 3 := by unfold ovc; rw [if_pos h, if_neg (by rw [h2]; decide)]
theorem ovc_many (h : goodl a = true) (h2 : goodl b = true) (h3 : 64 < (ofq (a.map fq) b).length) : ovc a b = 12 := by unfold ovc; rw [if_pos h, if_pos h2, if_pos h3]
theorem ovc_ok (h : goodl a = true) (h2 : goodl b = true) (h3 : (ofq (a.map fq) b).length ≤ 64) : ovc a b = 0 := by unfold ovc; rw [if_pos h, if_pos h2, if_neg (by omega)]
theorem ovq_no (h : ovc a b ≠ 0) : ovq a b = [] := if_neg h
theorem ovq_ok (h : ovc a b = 0) : ovq a b = ofq (a.map fq) b := if_pos h
theorem good_le (h : goodl a = true) : a.length ≤ 64 := (okAt_all h).2
theorem good_at0 {i : Nat} {r : Bn} (h : goodl a = true) (he : a[i]? = some r) : rightc r = 0 := by
  have h1 := good_right h (List.getElem?_eq_some_iff.1 he).1
  rwa [bnat_of he] at h1
end
def GEO (w : World) (L : Nat) (a b : List Bn) (e : Ending) (w' : World) : Prop :=
  Below w.heap.size w w' ∧ ∃ A n c, e = .returned (.tuple #[.slice A n c, .int .i64 (ovc a b)]) ∧ ListO w.heap.size L w' A n c (ovq a b)
def GRO (w : World) (L : Nat) (a b : List Bn) (e : Ending) (w' : World) : Prop :=
  Below w.heap.size w w' ∧ ∃ A n c, e = .returned (.tuple #[.slice A n c, .int .i64 (ovc a b)]) ∧ ListR w.heap.size L w' A n c (ovq a b)
set_option maxHeartbeats 8000000 in
theorem eover_any {L n c n2 c2 : Nat} {A A2 : Option Addr} {xs bs : List Bn} {w : World} (h : ListI L w (.slice A n c) xs) (h2 : ListI L w (.slice A2 n2 c2) bs) (hL1 : 1 ≤ L) (hL : L ≤ 268435456) (hn : n ≤ 1073741824) (hn2 : n2 ≤ 1073741824) :
    Calls Tryz.prog 19 #[.slice A n c, .slice A2 n2 c2] w (GEO w L xs bs) := by
  have H := Lib.hid h
  have H2 := Lib.hid h2
  have HN1 : Hid (n = xs.length) := h.len.1
  have HN2 : Hid (n2 = bs.length) := h2.len.1
  have CA := Lib.hid (egood_any h hL1 hL hn)
  have CB := Lib.hid fun w' (hb : Below w.heap.size w w') => egood_any (h2.below hb) hL1 hL hn2
  clear h h2
  rcases Bool.eq_false_or_eq_true (goodl xs) with hg | hg
  · rw [hg] at CA
    have HGA := Lib.hid hg
    clear hg
    rcases Bool.eq_false_or_eq_true (goodl bs) with hg | hg
    · rw [hg] at CB
      have HGB := Lib.hid hg
      clear hg
      go_enter Tryz.func19, Tryz.ntmps19
      go_wp2_with fail
      refine (CA.out).mono ?_
      rintro e w1 ⟨rfl, hb1⟩
      go_wp2_with fail
      refine (CB.out _ hb1).mono ?_
      rintro e w2 ⟨rfl, hb2⟩
      have HBC : Hid (w.heap.size ≤ w2.heap.size) := (bt hb1 hb2).size
      go_wp2_with fail
      refine (ecopied_any ((H.out.below hb1).below hb2) (good_pos HGA.out) hL1 hL hn).mono ?_
      rintro e w5 ⟨A5, c5, rfl, lo5, hb5⟩
      have HL5 := Lib.hid (lo5.mono HBC.out)
      have HB5 : Hid (Below w.heap.size w w5) := (bt (bt hb1 hb2) hb5)
      clear lo5 hb5
      go_wp2
      go_loopw [6, 22] (fun ov kv wr => ∃ (j m : Nat) (A' : Option Addr) (c' : Nat), Hid (Below w.heap.size w wr ∧ ListO w.heap.size L wr A' m c' (ofq (xs.map fq) (bs.take j))) ∧ j ≤ n2 ∧ m ≤ 64 ∧ ov = .slice A' m c' ∧ kv = .int .i64 (j : Int)) (fun _ kv _ => n2 - (intOf kv).toNat)
      case atStart => exact ⟨0, n, A5, c5, ⟨HB5.out, by simpa [ofq] using HL5.out⟩, Nat.zero_le _, by have := good_le HGA.out; have := HN1.out; omega, rfl, rfl⟩
      case round =>
        obtain ⟨j, m, A', c', hI, hj, hm, rfl, rfl⟩ := hrel
        by_cases hlt2 : j < n2
        · obtain ⟨b, off, A1, n1, c1, r, e, hb, eq, h0, h1, h3, h4, h5⟩ := (H2.out.below hI.out.1).at (i := j) (by have := HN2.out; omega)
          have HQ := Lib.hid eq
          have HP := Lib.hid h3
          have HS := Lib.hid h4
          clear eq h3 h4
          subst e
          have i1 : (0 : Int) ≤ (j : Int) := by omega
          have i2 : (j : Int) < (n2 : Int) := by omega
          have x0 := h0.1
          have x1 := h1.1
          have hr0 : rightc r = 0 := good_at0 HGB.out HQ.out
          have HRI : Hid (Rises (ofq (xs.map fq) (bs.take j))) := ofq_rises _ _ (goodl_rises HGA.out)
          have HML : Hid (m = (ofq (xs.map fq) (bs.take j)).length) := hI.out.2.len
          have C := Lib.hid (put_any (B := w.heap.size) (t := r.1) (w := World.alloc wr (.cells #[.string r.1, .slice A1 n1 c1] 55)) (hI.out.2.below (belowA _ _)) (HP.out.below (belowA _ _)) (fitc_pos (rightc_zero hr0).2) HS.out (fun a b h1 h2 h3 => rises_mono HRI.out r.1 h1 (by have := HML.out; omega) h3) hm hL1 hL (by omega) (by have := hI.out.1.size; simp; omega))
          have HBA : Hid (Below w.heap.size w (World.alloc wr (.cells #[.string r.1, .slice A1 n1 c1] 55))) := bt hI.out.1 (belowA _ _)
          have HSN : Hid (ofq (xs.map fq) (bs.take (j + 1)) = insq (ofq (xs.map fq) (bs.take j)) (r.1, pn r.2)) := ofqa_snoc HQ.out
          clear h0 h1 hr0 hI
          go_wp2_with fail
          refine C.out.mono ?_
          rintro e w1 hgp
          obtain ⟨hb1, hcase⟩ := gput_out hgp HML.out hm
          have HB : Hid (Below w.heap.size w w1) := HBA.out.trans hb1
          clear hb1 x0 x1 C hgp
          rcases hcase with ⟨hle, A4, n4, c4, rfl, hl⟩ | ⟨hgt, rfl⟩
          · have HN : Hid (Below w.heap.size w w1 ∧ ListO w.heap.size L w1 A4 n4 c4 (ofq (xs.map fq) (bs.take (j + 1)))) := ⟨HB.out, by rw [HSN.out]; exact hl⟩
            have hn4 : n4 ≤ 64 := by rw [hl.len]; exact hle
            clear hl hle
            go_wp2
            go_roundw
            case rel => exact ⟨j + 1, n4, A4, c4, HN, by omega, hn4, rfl, by go_num⟩
            case measure => simp [intOf]; omega
          · have HC : Hid (ovc xs bs = 12) := ovc_many HGA.out HGB.out (by
              have h6 := ofqa_take (xs.map fq) bs (j + 1)
              rw [HSN.out] at h6
              omega)
            have HPL : Hid (ovq xs bs = []) := ovq_no (by rw [HC.out]; decide)
            clear hgt
            go_wp2
            go_ret2
            exact ⟨HB.out, none, 0, 0, by rw [HC.out]; rfl, by rw [HPL.out]; exact ListO.nil⟩
        · obtain rfl : j = n2 := by omega
          have hfl : ListO w.heap.size L wr A' m c' (ofq (xs.map fq) bs) := by
            have h6 := hI.out.2
            rwa [List.take_of_length_le (by have := HN2.out; omega)] at h6
          have HC : Hid (ovc xs bs = 0) := ovc_ok HGA.out HGB.out (by rw [← hfl.len]; exact hm)
          have HPL : Hid (ovq xs bs = ofq (xs.map fq) bs) := ovq_ok HC.out
          have HR := Lib.hid (And.intro hI.out.1 hfl)
          clear hI hfl
          go_wp2
          go_ret2
          exact ⟨HR.out.1, A', m, c', by rw [HC.out]; rfl, by rw [HPL.out]; exact HR.out.2⟩
    · rw [hg] at CB
      have HC : Hid (ovc xs bs = 3) := ovc_b HGA.out hg
      have HPL : Hid (ovq xs bs = []) := ovq_no (by rw [HC.out]; decide)
      clear hg
      go_enter Tryz.func19, Tryz.ntmps19
      go_wp2_with fail
      refine (CA.out).mono ?_
      rintro e w3 ⟨rfl, hb3⟩
      go_wp2_with fail
      refine (CB.out _ hb3).mono ?_
      rintro e w4 ⟨rfl, hb4⟩
      have HB := Lib.hid (bt hb3 hb4)
      go_wp2
      go_ret2
      exact ⟨HB.out, none, 0, 0, by rw [HC.out]; rfl, by rw [HPL.out]; exact ListO.nil⟩
  · rw [hg] at CA
    have HC : Hid (ovc xs bs = 3) := ovc_a hg
    have HPL : Hid (ovq xs bs = []) := ovq_no (by rw [HC.out]; decide)
    clear hg
    go_enter Tryz.func19, Tryz.ntmps19
    go_wp2_with fail
    refine (CA.out).mono ?_
    rintro e w5 ⟨rfl, hb5⟩
    have HB := Lib.hid hb5
    go_wp2
    go_ret2
    exact ⟨HB.out, none, 0, 0, by rw [HC.out]; rfl, by rw [HPL.out]; exact ListO.nil⟩
set_option maxHeartbeats 8000000 in
theorem rover_any {L n c n2 c2 : Nat} {A A2 : Option Addr} {xs bs : List Bn} {w : World} (h : ListI L w (.slice A n c) xs) (h2 : ListI L w (.slice A2 n2 c2) bs) (hL1 : 1 ≤ L) (hL : L ≤ 268435456) (hn : n ≤ 1073741824) (hn2 : n2 ≤ 1073741824) :
    Calls Tryz.prog 20 #[.slice A n c, .slice A2 n2 c2] w (GRO w L xs bs) := by
  have H := Lib.hid h
  have H2 := Lib.hid h2
  have HN1 : Hid (n = xs.length) := h.len.1
  have HN2 : Hid (n2 = bs.length) := h2.len.1
  have CA := Lib.hid (rgood_any h hL1 hL hn)
  have CB := Lib.hid fun w' (hb : Below w.heap.size w w') => rgood_any (h2.below hb) hL1 hL hn2
  clear h h2
  rcases Bool.eq_false_or_eq_true (goodl xs) with hg | hg
  · rw [hg] at CA
    have HGA := Lib.hid hg
    clear hg
    rcases Bool.eq_false_or_eq_true (goodl bs) with hg | hg
    · rw [hg] at CB
      have HGB := Lib.hid hg
      clear hg
      go_enter Tryz.func20, Tryz.ntmps20
      go_wp2_with fail
      refine (CA.out).mono ?_
      rintro e w1 ⟨rfl, hb1⟩
      go_wp2_with fail
      refine (CB.out _ hb1).mono ?_
      rintro e w2 ⟨rfl, hb2⟩
      have HBC : Hid (w.heap.size ≤ w2.heap.size) := (bt hb1 hb2).size
      go_wp2_with fail
      refine (rform_any ((H.out.below hb1).below hb2) (good_pos HGA.out) hL1 hL hn).mono ?_
      rintro e w5 ⟨A5, c5, rfl, lo5, hb5⟩
      go_wp2_with fail
      refine (rform_any (((H2.out.below hb1).below hb2).below hb5) (good_pos HGB.out) hL1 hL hn2).mono ?_
      rintro e w6 ⟨A6, c6, rfl, lo6, hb6⟩
      have HL5 := Lib.hid ((lo5.below hb6).mono HBC.out)
      have HB6 : Hid (Below w.heap.size w w6) := (bt (bt (bt hb1 hb2) hb5) hb6)
      have HF := Lib.hid (lo6.mono (Nat.le_trans HBC.out hb5.size))
      clear lo5 hb5 lo6 hb6
      go_wp2
      go_loopw [6, 22] (fun ov kv wr => ∃ (j m : Nat) (A' : Option Addr) (c' : Nat), Hid (Below w6.heap.size w6 wr ∧ ListR w.heap.size L wr A' m c' (ofq (xs.map fq) (bs.take j))) ∧ j ≤ n2 ∧ m ≤ 1000 ∧ ov = .slice A' m c' ∧ kv = .int .i64 (j : Int)) (fun _ kv _ => n2 - (intOf kv).toNat)
      case atStart => exact ⟨0, n, A5, c5, ⟨Below.refl _ _, by simpa [ofq] using HL5.out⟩, Nat.zero_le _, by have := good_le HGA.out; have := HN1.out; omega, rfl, rfl⟩
      case round =>
        obtain ⟨j, m, A', c', hI, hj, hm, rfl, rfl⟩ := hrel
        by_cases hlt2 : j < n2
        · obtain ⟨r, er⟩ : ∃ r, bs[j]? = some r := ⟨_, List.getElem?_eq_getElem (by have := HN2.out; omega)⟩
          have ex : (bs.map fq)[j]? = some (fq r) := by rw [List.getElem?_map, er]; rfl
          have HX : Hid (∃ (hs : List Hb) (hd : Hb), RdK 2 wr A6 n2 c6 (hs.flatMap hbv) ∧ hs[j]? = some hd ∧ OwnB w.heap.size L wr hd (fq r)) := by
            obtain ⟨hs, k1, k2⟩ := HF.out.below hI.out.1
            obtain ⟨hd, x', e1, e2, e3⟩ := k2.at (i := j) (by rw [List.length_map]; have := HN2.out; omega)
            have : fq r = x' := by have := ex.symm.trans e2; injection this
            subst this
            exact ⟨hs, hd, k1.rd, e1, e3⟩
          obtain ⟨hs, hd, k1, k2, k3⟩ := HX.out
          obtain ⟨b, off, e, hbl, g0, g1⟩ := k1.at2 k2
          subst e
          obtain ⟨nm0, A1, n1, c1⟩ := hd
          have hnm0 : nm0 = r.1 := k3.1
          subst hnm0
          have HO := Lib.hid k3
          have HE := Lib.hid er
          have x0 := g0.1
          have x1 := g1.1
          simp only [shv] at x1
          have i1 : (0 : Int) ≤ (j : Int) := by omega
          have i2 : (j : Int) < (n2 : Int) := by omega
          have HSN : Hid (ofq (xs.map fq) (bs.take (j + 1)) = insq (ofq (xs.map fq) (bs.take j)) (r.1, pn r.2)) := ofqa_snoc er
          have HRI : Hid (Rises (ofq (xs.map fq) (bs.take j))) := ofq_rises _ _ (goodl_rises HGA.out)
          clear HX k1 k2 k3 g0 g1 er ex
          have HBA : Hid (Below w6.heap.size w6 (World.alloc wr (.cells #[.string r.1, .slice A1 n1 c1] 89))) := bt hI.out.1 (belowA _ _)
          have HZ1 : Hid (w.heap.size ≤ (World.alloc wr (.cells #[.string r.1, .slice A1 n1 c1] 89)).heap.size) := by have h1 := HB6.out.size; have h2 := HBA.out.size; show _ ≤ _; omega
          have C := Lib.hid (rset_any (hI.out.2.below (belowA _ (.cells #[.string r.1, .slice A1 n1 c1] 89))) HRI.out (HO.out.below (belowA _ _)) (by omega) HZ1.out)
          go_wp2_with fail
          refine C.out.mono ?_
          rintro e w2 ⟨A7, m7, c7, rfl, hl7, hb7⟩
          have HN : Hid (Below w6.heap.size w6 w2 ∧ ListR w.heap.size L w2 A7 m7 c7 (ofq (xs.map fq) (bs.take (j + 1)))) := ⟨bt HBA.out hb7, by rw [HSN.out]; exact hl7⟩
          have hm7 : m7 ≤ 1000 := by
            have h7 := HN.out.2.len
            have h8 := ofq_len2 (bs.take (j + 1)) (xs.map fq)
            rw [List.length_take, List.length_map] at h8
            have := good_le HGA.out
            have := good_le HGB.out
            omega
          clear hl7 hb7 x0 x1 C hI
          go_wp2
          go_roundw
          case rel => exact ⟨j + 1, m7, A7, c7, HN, by omega, hm7, rfl, by go_num⟩
          case measure => simp [intOf]; omega
        · obtain rfl : j = n2 := by omega
          have hfl : ListR w.heap.size L wr A' m c' (ofq (xs.map fq) bs) := by
            have h6 := hI.out.2
            rwa [List.take_of_length_le (by have := HN2.out; omega)] at h6
          have HR := Lib.hid (And.intro (bt HB6.out hI.out.1) hfl)
          have HLN : Hid (m = (ofq (xs.map fq) bs).length) := hfl.len
          clear hI hfl
          by_cases h64 : 64 < m
          · have d : (64 : Int) < (m : Int) := by omega
            have d2 : decide ((64 : Int) < (m : Int)) = true := decide_eq_true d
            have HC : Hid (ovc xs bs = 12) := ovc_many HGA.out HGB.out (by have := HLN.out; omega)
            have HPL : Hid (ovq xs bs = []) := ovq_no (by rw [HC.out]; decide)
            go_wp2
            go_ret2
            exact ⟨HR.out.1, none, 0, 0, by rw [HC.out]; rfl, by rw [HPL.out]; exact ListR.nil⟩
          · have d : ¬ (64 : Int) < (m : Int) := by omega
            have d2 : decide ((64 : Int) < (m : Int)) = false := decide_eq_false d
            have HC : Hid (ovc xs bs = 0) := ovc_ok HGA.out HGB.out (by have := HLN.out; omega)
            have HPL : Hid (ovq xs bs = ofq (xs.map fq) bs) := ovq_ok HC.out
            go_wp2
            go_ret2
            exact ⟨HR.out.1, A', m, c', by rw [HC.out]; rfl, by rw [HPL.out]; exact HR.out.2⟩
    · rw [hg] at CB
      have HC : Hid (ovc xs bs = 3) := ovc_b HGA.out hg
      have HPL : Hid (ovq xs bs = []) := ovq_no (by rw [HC.out]; decide)
      clear hg
      go_enter Tryz.func20, Tryz.ntmps20
      go_wp2_with fail
      refine (CA.out).mono ?_
      rintro e w3 ⟨rfl, hb3⟩
      go_wp2_with fail
      refine (CB.out _ hb3).mono ?_
      rintro e w4 ⟨rfl, hb4⟩
      have HB := Lib.hid (bt hb3 hb4)
      go_wp2
      go_ret2
      exact ⟨HB.out, none, 0, 0, by rw [HC.out]; rfl, by rw [HPL.out]; exact ListR.nil⟩
  · rw [hg] at CA
    have HC : Hid (ovc xs bs = 3) := ovc_a hg
    have HPL : Hid (ovq xs bs = []) := ovq_no (by rw [HC.out]; decide)
    clear hg
    go_enter Tryz.func20, Tryz.ntmps20
    go_wp2_with fail
    refine (CA.out).mono ?_
    rintro e w5 ⟨rfl, hb5⟩
    have HB := Lib.hid hb5
    go_wp2
    go_ret2
    exact ⟨HB.out, none, 0, 0, by rw [HC.out]; rfl, by rw [HPL.out]; exact ListR.nil⟩
end Go.Proofs.YtphofjinncbaaaaGreat
namespace Go.Proofs.YtphofjinncbaaaaGreat
open Go.RowKit
set_option linter.unusedVariables false
set_option linter.unusedSimpArgs false

def dfc (a b : List Bn) : Int := if goodl a = true then (if goodl b = true then 0 else 3) else 3
def dfl (a b : List Bn) : List ByteArray := if dfc a b = 0 then difm (a.map fq) (b.map fq) else []
section
variable {a b : List Bn}
theorem dfc_a (h : goodl a = false) : dfc a b = 3 := by unfold dfc; rw [if_neg (by rw [h]; decide)]
theorem dfc_b (h : goodl a = true) (h2 : goodl b = false) : dfc a b = 3 := by unfold dfc; rw [if_pos h, if_neg (by rw [h2]; decide)]
theorem dfc_ok (h : goodl a = true) (h2 : goodl b = true) : dfc a b = 0 := by unfold dfc; rw [if_pos h, if_pos h2]
theorem dfl_no (h : dfc a b ≠ 0) : dfl a b = [] := if_neg h
theorem dfl_ok (h : dfc a b = 0) : dfl a b = difm (a.map fq) (b.map fq) := if_pos h
end
def GDf (w : World) (a b : List Bn) (e : Ending) (w' : World) : Prop :=
  Below w.heap.size w w' ∧ ∃ A n c, e = .returned (.tuple #[.slice A n c, .int .i64 (dfc a b)]) ∧ RdK 1 w' A n c ((dfl a b).map Value.string) ∧ n ≤ 128
theorem ListI.tail {L n c b off : Nat} {w : World} {x : Bn} {xs : List Bn} (H : ListI L w (.slice (some ⟨b, off, none⟩) n c) (x :: xs)) : ListI L w (.slice (if c = 1 then some ⟨b, off, none⟩ else some ⟨b, off + 2, none⟩) (n - 1) (c - 1)) xs := by
  obtain ⟨_, _, _, hs, e, h1, h2, h3⟩ := H
  injection e with e1 e2 e3
  subst e1 e2 e3
  have hl : hs.length = xs.length + 1 := h3.1
  cases hs with
  | nil => simp at hl
  | cons h hs =>
    have hn : n = xs.length + 1 := by simpa using h2
    refine ⟨_, _, _, hs, rfl, ⟨⟨?_, ?_⟩, fun hn0 => ?_⟩, by omega, by simpa using hl, fun i a r e1 e2 => h3.2 (i + 1) a r (by simpa using e1) (by simpa using e2)⟩
    · have := h1.1.1
      rw [List.flatMap_cons, List.length_append, hbv_len] at this
      omega
    · have := h1.1.2; omega
    · have hc1 : ¬ c = 1 := by have := h1.1.2; omega
      rw [if_neg hc1]
      obtain ⟨b', off', e', hb, hc⟩ := h1.2 (by omega)
      injection e' with e'
      injection e' with e1 e2
      subst e1 e2
      refine ⟨b, off + 2, rfl, hb, fun i hi => ?_⟩
      have := hc (i + 2) (by omega)
      rw [show off + 2 + i = off + (i + 2) by omega, this, List.flatMap_cons, List.getElem?_append_right (by rw [hbv_len]; omega), hbv_len]
      congr 1
theorem ListI.head {L n c : Nat} {A : Option Addr} {w : World} {x : Bn} {xs : List Bn} (H : ListI L w (.slice A n c) (x :: xs)) : ∃ b off A1 n1 c1, A = some ⟨b, off, none⟩ ∧ At w ⟨b, off, none⟩ (.string x.1) ∧ At w ⟨b, off + 1, none⟩ (.slice A1 n1 c1) ∧ PolyI L w (.slice A1 n1 c1) x.2 ∧ n1 ≤ 1073741824 := by
  obtain ⟨b, off, A1, n1, c1, r, e, hb, eq, h0, h1, h3, h4, h5⟩ := H.at (i := 0) (by simp)
  simp only [List.getElem?_cons_zero, Option.some.injEq] at eq
  subst eq
  simp only [Nat.zero_mul, Nat.add_zero] at h0 h1
  exact ⟨b, off, A1, n1, c1, e, h0, h1, h3, h5⟩
theorem difm_l {x : Bq} {xs : List Bq} : difm (x :: xs) [] = x.1 :: difm xs [] := by rw [difm]
theorem difm_r {y : Bq} {ys : List Bq} : difm [] (y :: ys) = y.1 :: difm [] ys := by rw [difm, difm]; rfl
theorem difm_lt {x y : Bq} {xs ys : List Bq} (h : bcmp x.1 y.1 < 0) : difm (x :: xs) (y :: ys) = x.1 :: difm xs (y :: ys) := by rw [difm, if_pos h]
theorem difm_gt {x y : Bq} {xs ys : List Bq} (h0 : ¬ bcmp x.1 y.1 < 0) (h : bcmp y.1 x.1 < 0) : difm (x :: xs) (y :: ys) = y.1 :: difm (x :: xs) ys := by rw [difm, if_neg h0, if_pos h]
theorem difm_eq {x y : Bq} {xs ys : List Bq} (h0 : ¬ bcmp x.1 y.1 < 0) (h : ¬ bcmp y.1 x.1 < 0) (h2 : x.2 = y.2) : difm (x :: xs) (y :: ys) = difm xs ys := by rw [difm, if_neg h0, if_neg h, if_pos h2]
theorem difm_ne {x y : Bq} {xs ys : List Bq} (h0 : ¬ bcmp x.1 y.1 < 0) (h : ¬ bcmp y.1 x.1 < 0) (h2 : ¬ x.2 = y.2) : difm (x :: xs) (y :: ys) = x.1 :: difm xs ys := by rw [difm, if_neg h0, if_neg h, if_neg h2]
def DI (w : World) (L : Nat) (D : List ByteArray) (xs ys : List Bn) (ns : List ByteArray) (va vb : Value) (Ao : Option Addr) (no co : Nat) (wr : World) : Prop :=
  Below w.heap.size w wr ∧ ListI L w va xs ∧ ListI L w vb ys ∧ RowK 1 9 w.heap.size wr Ao no co (ns.map Value.string) ∧ ns ++ difm (xs.map fq) (ys.map fq) = D ∧ (∀ b ∈ xs, ∀ r ∈ b.2, 0 < r.2.2) ∧ (∀ b ∈ ys, ∀ r ∈ b.2, 0 < r.2.2)
set_option maxHeartbeats 8000000 in
set_option maxRecDepth 100000 in
theorem edif_any {L n c n2 c2 : Nat} {A A2 : Option Addr} {xs ys : List Bn} {w : World} (h : ListI L w (.slice A n c) xs) (h2 : ListI L w (.slice A2 n2 c2) ys) (hL1 : 1 ≤ L) (hL : L ≤ 268435456) (hn : n ≤ 1073741824) (hn2 : n2 ≤ 1073741824) :
    Calls Tryz.prog 21 #[.slice A n c, .slice A2 n2 c2] w (GDf w xs ys) := by
  have H := Lib.hid h
  have H2 := Lib.hid h2
  have HN1 : Hid (n = xs.length) := h.len.1
  have HN2 : Hid (n2 = ys.length) := h2.len.1
  have CA := Lib.hid (egood_any h hL1 hL hn)
  have CB := Lib.hid fun w' (hb : Below w.heap.size w w') => egood_any (h2.below hb) hL1 hL hn2
  clear h h2
  rcases Bool.eq_false_or_eq_true (goodl xs) with hg | hg
  · rw [hg] at CA
    have HGA := Lib.hid hg
    clear hg
    rcases Bool.eq_false_or_eq_true (goodl ys) with hg | hg
    · rw [hg] at CB
      have HGB := Lib.hid hg
      clear hg
      go_enter Tryz.func21, Tryz.ntmps21
      go_wp2_with fail
      refine (CA.out).mono ?_
      rintro e w1 ⟨rfl, hb1⟩
      go_wp2_with fail
      refine (CB.out _ hb1).mono ?_
      rintro e w2 ⟨rfl, hb2⟩
      have HC : Hid (dfc xs ys = 0) := dfc_ok HGA.out HGB.out
      have HDL : Hid (dfl xs ys = difm (xs.map fq) (ys.map fq)) := dfl_ok HC.out
      have HI0 : Hid (DI w L (difm (xs.map fq) (ys.map fq)) xs ys [] (.slice A n c) (.slice A2 n2 c2) none 0 0 w2) := ⟨(bt hb1 hb2), H.out, H2.out, RowK.nil, rfl, good_pos HGA.out, good_pos HGB.out⟩
      have hn64 : n ≤ 64 := by have := good_le HGA.out; have := HN1.out; omega
      have hn264 : n2 ≤ 64 := by have := good_le HGB.out; have := HN2.out; omega
      generalize difm (xs.map fq) (ys.map fq) = D at HI0 HDL
      go_wp2
      go_loopw [0, 1, 6] (fun av bv ov wr => ∃ (us vs : List Bn) (ns : List ByteArray) (Ax : Option Addr) (nx cx : Nat) (Ay : Option Addr) (ny cy : Nat) (Ao : Option Addr) (no co : Nat), Hid (DI w L D us vs ns (.slice Ax nx cx) (.slice Ay ny cy) Ao no co wr) ∧ nx ≤ 64 ∧ ny ≤ 64 ∧ no + nx + ny ≤ 128 ∧ av = .slice Ax nx cx ∧ bv = .slice Ay ny cy ∧ ov = .slice Ao no co) (fun av bv _ _ => slen av + slen bv)
      case atStart => exact ⟨xs, ys, [], A, n, c, A2, n2, c2, none, 0, 0, HI0, hn64, hn264, by omega, rfl, rfl, rfl⟩
      case round =>
        obtain ⟨us, vs, ns, Ax, nx, cx, Ay, ny, cy, Ao, no, co, hI, hx, hy, ho, rfl, rfl, rfl⟩ := hrel
        have HLX : Hid (nx = us.length) := hI.out.2.1.len.1
        have HLY : Hid (ny = vs.length) := hI.out.2.2.1.len.1
        clear HI0
        cases us with
        | nil =>
          cases vs with
          | nil =>
            obtain rfl : nx = 0 := HLX.out
            obtain rfl : ny = 0 := HLY.out
            have HR : Hid (Below w.heap.size w wr ∧ RdK 1 wr Ao no co ((dfl xs ys).map Value.string)) := by
              have h1 := hI.out.2.2.2.2.1
              rw [List.map_nil, difm, List.map_nil, List.append_nil] at h1
              refine ⟨hI.out.1, ?_⟩
              rw [HDL.out, ← h1]
              exact hI.out.2.2.2.1.rd
            clear hI
            go_wp2
            go_ret2
            exact ⟨HR.out.1, Ao, no, co, by rw [HC.out]; rfl, HR.out.2, by omega⟩
          | cons y vs =>
            obtain rfl : nx = 0 := HLX.out
            have HBW := Lib.hid hI.out.1
            have HRW := Lib.hid hI.out.2.2.2.1
            have HDD := Lib.hid hI.out.2.2.2.2.1
            have HXP := Lib.hid hI.out.2.2.2.2.2.1
            have HYP := Lib.hid hI.out.2.2.2.2.2.2
            have HLI := Lib.hid hI.out.2.1
            have HLI2 := Lib.hid hI.out.2.2.1
            have hny : 0 < ny := by have := HLY.out; rw [List.length_cons] at this; omega
            obtain ⟨b2, off2, A3, n3, c3, e2, k0, k1, hp2, hn3⟩ := (hI.out.2.2.1.below hI.out.1).head
            subst e2
            have j1 : (0 : Int) < (ny : Int) := by omega
            have j3 : ((ny : Int) == 0) = false := by rw [beq_eq_false_iff_ne]; omega
            have HLT2 := Lib.hid HLI2.out.tail
            have y0 := k0.1
            clear hI hp2 k1
            go_wp2_with fail
            go_wp2_with fail
            refine wp_region_grow none [(true, 0), (true, 1), (true, 2), (true, 3), (true, 4), (true, 5), (true, 6), (true, 7), (true, 8), (true, 9), (true, 10), (true, 11), (true, 12), (true, 13), (true, 14), (true, 15), (true, 16), (true, 17), (true, 18), (true, 19)] (by kernel_rfl) (by kernel_rfl) ?_
            repeat (refine ord_pas (by rfl) (fun K hK => ?_); go_simp; refine hK _ _ (fun w' hw' => (by first | (go_simp; done) | (go_simp; intro hh; cases hh))) ?_; clear hK K)
            refine ord_nil ?_
            go_wp2_with fail
            refine wp_region_grow none [(true, 0), (true, 1), (true, 2), (true, 3), (true, 4), (true, 5), (true, 6), (true, 7), (true, 8), (true, 9), (true, 10), (true, 11), (true, 12), (true, 13), (true, 14)] (by kernel_rfl) (by kernel_rfl) ?_
            repeat (refine ord_pas (by rfl) (fun K hK => ?_); go_simp; refine hK _ _ (fun w' hw' => (by first | (go_simp; done) | (go_simp; intro hh; cases hh))) ?_; clear hK K)
            refine ord_nil ?_
            go_wp2_with (at_builtin; (refine wpList_appK rfl (.tmp 88) (.tmp 93) rfl elText (B := w.heap.size) (us := [.string y.1]) rfl rfl (((HRW.out.below (Below.refl _ _).drew).below (Below.refl _ _).drew).below (belowA _ _)) (RowK.lit (k := 1) (T := 9) (B := 0) (World.drew (World.drew wr)) 1 [.string y.1] (by simp) rfl (by omega) (Nat.zero_le _)).rd (by simp [Value.oneCell']) (by omega) (by omega) (by have := HBW.out.size; simp; omega) ?_); intro A4 c4 w4 hoo hb4 _; have HN : Hid (DI w L D [] vs (ns ++ [y.1]) (.slice Ax 0 cx) (.slice (if cy = 1 then some ⟨b2, off2, none⟩ else some ⟨b2, off2 + 2, none⟩) (ny - 1) (cy - 1)) A4 (no + 1) c4 w4) := ⟨((HBW.out.drew.drew).alloc HBW.out.size _).trans hb4, HLI.out, HLT2.out, by simpa using hoo, by rw [← HDD.out, List.map_nil, List.map_cons, difm_r, List.append_assoc]; rfl, HXP.out, fun b' hb' => HYP.out b' (List.mem_cons_of_mem _ hb')⟩; clear hoo hb4)
            go_roundw
            case rel => exact ⟨[], vs, ns ++ [y.1], Ax, 0, cx, _, ny - 1, cy - 1, A4, no + 1, c4, HN, by omega, by omega, by omega, rfl, rfl, rfl⟩
            case measure => simp [slen]; omega
        | cons x us =>
          cases vs with
          | nil =>
            obtain rfl : ny = 0 := HLY.out
            have HBW := Lib.hid hI.out.1
            have HRW := Lib.hid hI.out.2.2.2.1
            have HDD := Lib.hid hI.out.2.2.2.2.1
            have HXP := Lib.hid hI.out.2.2.2.2.2.1
            have HYP := Lib.hid hI.out.2.2.2.2.2.2
            have HLI := Lib.hid hI.out.2.1
            have HLI2 := Lib.hid hI.out.2.2.1
            have hnx : 0 < nx := by have := HLX.out; rw [List.length_cons] at this; omega
            obtain ⟨b, off, A1, n1, c1, e, g0, g1, hp, hn1⟩ := (hI.out.2.1.below hI.out.1).head
            subst e
            have i1 : (0 : Int) < (nx : Int) := by omega
            have i3 : ((nx : Int) == 0) = false := by rw [beq_eq_false_iff_ne]; omega
            have HLT := Lib.hid HLI.out.tail
            have x0 := g0.1
            clear hI hp g1
            go_wp2_with fail
            go_wp2_with fail
            have e_g0 := g0.1
            have g_g0 := At.grow g0
            refine wp_region_grow none [(true, 0), (true, 1), (true, 2), (true, 3), (true, 4), (true, 5), (true, 6), (true, 7), (true, 8), (true, 9), (true, 10), (true, 11), (true, 12), (true, 13), (true, 14), (true, 15), (true, 16), (true, 17), (true, 18), (true, 19)] (by kernel_rfl) (by kernel_rfl) ?_
            repeat (refine ord_pas (by rfl) (fun K hK => ?_); go_simp; refine hK _ _ (fun w' hw' => (by first | (go_simp; done) | (go_simp; intro hh; cases hh))) ?_; clear hK K)
            refine ord_nil ?_
            go_wp2_with (at_builtin; (refine wpList_appK rfl (.tmp 64) (.tmp 69) rfl elText (B := w.heap.size) (us := [.string x.1]) rfl rfl ((HRW.out.below (Below.refl _ _).drew).below (belowA _ _)) (RowK.lit (k := 1) (T := 9) (B := 0) (World.drew wr) 1 [.string x.1] (by simp) rfl (by omega) (Nat.zero_le _)).rd (by simp [Value.oneCell']) (by omega) (by omega) (by have := HBW.out.size; simp; omega) ?_); intro A4 c4 w4 hoo hb4 _; have HN : Hid (DI w L D us [] (ns ++ [x.1]) (.slice (if cx = 1 then some ⟨b, off, none⟩ else some ⟨b, off + 2, none⟩) (nx - 1) (cx - 1)) (.slice Ay 0 cy) A4 (no + 1) c4 w4) := ⟨(HBW.out.drew.alloc HBW.out.size _).trans hb4, HLT.out, HLI2.out, by simpa using hoo, by rw [← HDD.out, List.map_nil, List.map_cons, difm_l, List.append_assoc]; rfl, fun b' hb' => HXP.out b' (List.mem_cons_of_mem _ hb'), HYP.out⟩; clear hoo hb4)
            go_roundw
            case rel => exact ⟨us, [], ns ++ [x.1], _, nx - 1, cx - 1, Ay, 0, cy, A4, no + 1, c4, HN, by omega, by omega, by omega, rfl, rfl, rfl⟩
            case measure => simp [slen]; omega
          | cons y vs =>
            have HBW := Lib.hid hI.out.1
            have HRW := Lib.hid hI.out.2.2.2.1
            have HDD := Lib.hid hI.out.2.2.2.2.1
            have HXP := Lib.hid hI.out.2.2.2.2.2.1
            have HYP := Lib.hid hI.out.2.2.2.2.2.2
            have HLI := Lib.hid hI.out.2.1
            have HLI2 := Lib.hid hI.out.2.2.1
            have hnx : 0 < nx := by have := HLX.out; rw [List.length_cons] at this; omega
            obtain ⟨b, off, A1, n1, c1, e, g0, g1, hp, hn1⟩ := (hI.out.2.1.below hI.out.1).head
            subst e
            have i1 : (0 : Int) < (nx : Int) := by omega
            have i3 : ((nx : Int) == 0) = false := by rw [beq_eq_false_iff_ne]; omega
            have HLT := Lib.hid HLI.out.tail
            have hny : 0 < ny := by have := HLY.out; rw [List.length_cons] at this; omega
            obtain ⟨b2, off2, A3, n3, c3, e2, k0, k1, hp2, hn3⟩ := (hI.out.2.2.1.below hI.out.1).head
            subst e2
            have j1 : (0 : Int) < (ny : Int) := by omega
            have j3 : ((ny : Int) == 0) = false := by rw [beq_eq_false_iff_ne]; omega
            have HLT2 := Lib.hid HLI2.out.tail
            have x0 := g0.1
            have y0 := k0.1
            have x1 := g1.1
            have y1 := k1.1
            have HP := Lib.hid hp
            have HP2 := Lib.hid hp2
            clear hI hp hp2
            by_cases c1 : bcmp x.1 y.1 < 0
            · have C1 := Lib.hid c1
              have d1 : Op.bytesLess x.1.toList y.1.toList = true := by rw [bcmp_lt, decide_eq_true c1]
              go_wp2_with fail
              go_wp2_with fail
              have e_g0 := g0.1
              have g_g0 := At.grow g0
              have e_k0 := k0.1
              have g_k0 := At.grow k0
              refine wp_region_grow none [(true, 0), (true, 1), (true, 2), (true, 3), (true, 4), (true, 5), (true, 6), (true, 7), (true, 8), (true, 9), (true, 10), (true, 11), (true, 12), (true, 13), (true, 14), (true, 15), (true, 16), (true, 17), (true, 18), (true, 19)] (by kernel_rfl) (by kernel_rfl) ?_
              repeat (refine ord_pas (by rfl) (fun K hK => ?_); go_simp; refine hK _ _ (fun w' hw' => (by first | (go_simp; done) | (go_simp; intro hh; cases hh))) ?_; clear hK K)
              refine ord_nil ?_
              go_wp2_with (at_builtin; (refine wpList_appK rfl (.tmp 64) (.tmp 69) rfl elText (B := w.heap.size) (us := [.string x.1]) rfl rfl ((HRW.out.below (Below.refl _ _).drew).below (belowA _ _)) (RowK.lit (k := 1) (T := 9) (B := 0) (World.drew wr) 1 [.string x.1] (by simp) rfl (by omega) (Nat.zero_le _)).rd (by simp [Value.oneCell']) (by omega) (by omega) (by have := HBW.out.size; simp; omega) ?_); intro A4 c4 w4 hoo hb4 _; have HN : Hid (DI w L D us (y :: vs) (ns ++ [x.1]) (.slice (if cx = 1 then some ⟨b, off, none⟩ else some ⟨b, off + 2, none⟩) (nx - 1) (cx - 1)) (.slice (some ⟨b2, off2, none⟩) ny cy) A4 (no + 1) c4 w4) := ⟨(HBW.out.drew.alloc HBW.out.size _).trans hb4, HLT.out, HLI2.out, by simpa using hoo, by rw [← HDD.out, List.map_cons, List.map_cons, difm_lt C1.out, List.append_assoc]; rfl, fun b' hb' => HXP.out b' (List.mem_cons_of_mem _ hb'), HYP.out⟩; clear hoo hb4)
              go_roundw
              case rel => exact ⟨us, y :: vs, ns ++ [x.1], _, nx - 1, cx - 1, _, ny, cy, A4, no + 1, c4, HN, by omega, by omega, by omega, rfl, rfl, rfl⟩
              case measure => simp [slen]; omega
            · have d1 : Op.bytesLess x.1.toList y.1.toList = false := by rw [bcmp_lt, decide_eq_false c1]
              have C1 : Hid (0 ≤ bcmp x.1 y.1) := Int.not_lt.1 c1
              by_cases c2 : bcmp y.1 x.1 < 0
              · have d2 : Op.bytesLess y.1.toList x.1.toList = true := by rw [bcmp_lt, decide_eq_true c2]
                have C2 := Lib.hid c2
                clear c1 c2
                go_wp2_with fail
                go_wp2_with fail
                have e_g0 := g0.1
                have g_g0 := At.grow g0
                have e_k0 := k0.1
                have g_k0 := At.grow k0
                refine wp_region_grow none [(true, 0), (true, 1), (true, 2), (true, 3), (true, 4), (true, 5), (true, 6), (true, 7), (true, 8), (true, 9), (true, 10), (true, 11), (true, 12), (true, 13), (true, 14), (true, 15), (true, 16), (true, 17), (true, 18), (true, 19)] (by kernel_rfl) (by kernel_rfl) ?_
                repeat (refine ord_pas (by rfl) (fun K hK => ?_); go_simp; refine hK _ _ (fun w' hw' => (by first | (go_simp; done) | (go_simp; intro hh; cases hh))) ?_; clear hK K)
                refine ord_nil ?_
                go_wp2_with fail
                go_wp2_with fail
                have e_g0 := (g0.below (Below.refl _ _).drew).1
                have g_g0 := At.grow (g0.below (Below.refl _ _).drew)
                have e_k0 := (k0.below (Below.refl _ _).drew).1
                have g_k0 := At.grow (k0.below (Below.refl _ _).drew)
                refine wp_region_grow none [(true, 0), (true, 1), (true, 2), (true, 3), (true, 4), (true, 5), (true, 6), (true, 7), (true, 8), (true, 9), (true, 10), (true, 11), (true, 12), (true, 13), (true, 14)] (by kernel_rfl) (by kernel_rfl) ?_
                repeat (refine ord_pas (by rfl) (fun K hK => ?_); go_simp; refine hK _ _ (fun w' hw' => (by first | (go_simp; done) | (go_simp; intro hh; cases hh))) ?_; clear hK K)
                refine ord_nil ?_
                go_wp2_with (at_builtin; (refine wpList_appK rfl (.tmp 88) (.tmp 93) rfl elText (B := w.heap.size) (us := [.string y.1]) rfl rfl (((HRW.out.below (Below.refl _ _).drew).below (Below.refl _ _).drew).below (belowA _ _)) (RowK.lit (k := 1) (T := 9) (B := 0) (World.drew (World.drew wr)) 1 [.string y.1] (by simp) rfl (by omega) (Nat.zero_le _)).rd (by simp [Value.oneCell']) (by omega) (by omega) (by have := HBW.out.size; simp; omega) ?_); intro A4 c4 w4 hoo hb4 _; have HN : Hid (DI w L D (x :: us) vs (ns ++ [y.1]) (.slice (some ⟨b, off, none⟩) nx cx) (.slice (if cy = 1 then some ⟨b2, off2, none⟩ else some ⟨b2, off2 + 2, none⟩) (ny - 1) (cy - 1)) A4 (no + 1) c4 w4) := ⟨((HBW.out.drew.drew).alloc HBW.out.size _).trans hb4, HLI.out, HLT2.out, by simpa using hoo, by rw [← HDD.out, List.map_cons, List.map_cons, difm_gt (Int.not_lt.2 C1.out) C2.out, List.append_assoc]; rfl, HXP.out, fun b' hb' => HYP.out b' (List.mem_cons_of_mem _ hb')⟩; clear hoo hb4)
                go_roundw
                case rel => exact ⟨x :: us, vs, ns ++ [y.1], _, nx, cx, _, ny - 1, cy - 1, A4, no + 1, c4, HN, by omega, by omega, by omega, rfl, rfl, rfl⟩
                case measure => simp [slen]; omega
              · have d2 : Op.bytesLess y.1.toList x.1.toList = false := by rw [bcmp_lt, decide_eq_false c2]
                have C2 : Hid (0 ≤ bcmp y.1 x.1) := Int.not_lt.1 c2
                have i5 : (1 : Int) ≤ (nx : Int) := by omega
                have j5 : (1 : Int) ≤ (ny : Int) := by omega
                clear c1 c2
                obtain ⟨d, hd⟩ : ∃ d, decide (pn x.2 = pn y.2) = d := ⟨_, rfl⟩
                have HD := Lib.hid hd
                have CE := Lib.hid fun w' (hb : Below wr.heap.size wr w') => equal_any (HP.out.below hb) (HXP.out x (List.mem_cons_self ..)) (HP2.out.below hb) (HYP.out y (List.mem_cons_self ..)) hL1 hL hn1 hn3
                rw [hd] at CE
                clear hd
                go_wp2_with fail
                go_wp2_with fail
                have e_g0 := g0.1
                have g_g0 := At.grow g0
                have e_k0 := k0.1
                have g_k0 := At.grow k0
                refine wp_region_grow none [(true, 0), (true, 1), (true, 2), (true, 3), (true, 4), (true, 5), (true, 6), (true, 7), (true, 8), (true, 9), (true, 10), (true, 11), (true, 12), (true, 13), (true, 14), (true, 15), (true, 16), (true, 17), (true, 18), (true, 19)] (by kernel_rfl) (by kernel_rfl) ?_
                repeat (refine ord_pas (by rfl) (fun K hK => ?_); go_simp; refine hK _ _ (fun w' hw' => (by first | (go_simp; done) | (go_simp; intro hh; cases hh))) ?_; clear hK K)
                refine ord_nil ?_
                go_wp2_with fail
                go_wp2_with fail
                have e_g0 := (g0.below (Below.refl _ _).drew).1
                have g_g0 := At.grow (g0.below (Below.refl _ _).drew)
                have e_k0 := (k0.below (Below.refl _ _).drew).1
                have g_k0 := At.grow (k0.below (Below.refl _ _).drew)
                refine wp_region_grow none [(true, 0), (true, 1), (true, 2), (true, 3), (true, 4), (true, 5), (true, 6), (true, 7), (true, 8), (true, 9), (true, 10), (true, 11), (true, 12), (true, 13), (true, 14)] (by kernel_rfl) (by kernel_rfl) ?_
                repeat (refine ord_pas (by rfl) (fun K hK => ?_); go_simp; refine hK _ _ (fun w' hw' => (by first | (go_simp; done) | (go_simp; intro hh; cases hh))) ?_; clear hK K)
                refine ord_nil ?_
                go_wp2_with fail
                go_wp2_with fail
                have e_g1 := ((g1.below (Below.refl _ _).drew).below (Below.refl _ _).drew).1
                have g_g1 := At.grow ((g1.below (Below.refl _ _).drew).below (Below.refl _ _).drew)
                have e_k1 := ((k1.below (Below.refl _ _).drew).below (Below.refl _ _).drew).1
                have g_k1 := At.grow ((k1.below (Below.refl _ _).drew).below (Below.refl _ _).drew)
                refine wp_region_grow none [(true, 0), (true, 1), (true, 2), (true, 3), (true, 4), (true, 5), (true, 6), (true, 7), (false, 8), (true, 9)] (by kernel_rfl) (by kernel_rfl) ?_
                repeat (refine ord_pas (by rfl) (fun K hK => ?_); go_simp; refine hK _ _ (fun w' hw' => (by first | (go_simp; done) | (go_simp; intro hh; cases hh))) ?_; clear hK K)
                (refine ord_call (by rfl) (fun K hK => ?_); go_simp; refine hK _ _ ?_; clear hK K)
                refine (CE.out _ (bt (bt (Below.refl _ _).drew (Below.refl _ _).drew) (Below.refl _ _).drew)).mono ?_
                rintro e w1 ⟨rfl, hb1⟩
                refine ⟨_, rfl, Grow.of_below hb1, ?_⟩
                (refine ord_norm (fun K hK => ?_); go_simp; refine hK _ ?_; clear hK K)
                repeat (refine ord_pas (by rfl) (fun K hK => ?_); go_simp; refine hK _ _ (fun w' hw' => (by first | (go_simp; done) | (go_simp; intro hh; cases hh))) ?_; clear hK K)
                refine ord_nil ?_
                have HBE := Lib.hid (bt HBW.out (bt (bt (bt (Below.refl _ _).drew (Below.refl _ _).drew) (Below.refl _ _).drew) hb1))
                have HRE := Lib.hid (HRW.out.below (bt (bt (bt (Below.refl _ _).drew (Below.refl _ _).drew) (Below.refl _ _).drew) hb1))
                have HX0 := Lib.hid ((((g0.below (Below.refl _ _).drew).below (Below.refl _ _).drew).below (Below.refl _ _).drew).below hb1)
                clear x0 y0 x1 y1 CE g0 g1 k0 k1
                obtain ⟨WE, hWE⟩ : ∃ WE, WE = w1 := ⟨_, rfl⟩
                rw [← hWE] at HBE HRE HX0 ⊢
                clear hWE
                cases d
                · have x0 := HX0.out.1
                  go_wp2_with (at_builtin; (refine wpList_appK rfl (.tmp 33) (.tmp 38) rfl elText (B := w.heap.size) (us := [.string x.1]) rfl rfl (HRE.out.below (belowA _ _)) (RowK.lit (k := 1) (T := 9) (B := 0) WE 1 [.string x.1] (by simp) rfl (by omega) (Nat.zero_le _)).rd (by simp [Value.oneCell']) (by omega) (by omega) (by have := HBE.out.size; simp; omega) ?_); intro A4 c4 w4 hoo hb4 _; have HN : Hid (DI w L D us vs (ns ++ [x.1]) (.slice (if cx = 1 then some ⟨b, off, none⟩ else some ⟨b, off + 2, none⟩) (nx - 1) (cx - 1)) (.slice (if cy = 1 then some ⟨b2, off2, none⟩ else some ⟨b2, off2 + 2, none⟩) (ny - 1) (cy - 1)) A4 (no + 1) c4 w4) := ⟨(HBE.out.alloc HBE.out.size _).trans hb4, HLT.out, HLT2.out, by simpa using hoo, by rw [← HDD.out, List.map_cons, List.map_cons, difm_ne (Int.not_lt.2 C1.out) (Int.not_lt.2 C2.out) (of_decide_eq_false HD.out), List.append_assoc]; rfl, fun b' hb' => HXP.out b' (List.mem_cons_of_mem _ hb'), fun b' hb' => HYP.out b' (List.mem_cons_of_mem _ hb')⟩; clear hoo hb4)
                  go_wp2_with fail
                  refine wp_region_grow none [(true, 0), (true, 1), (true, 2), (true, 3), (true, 4), (true, 5)] (by kernel_rfl) (by kernel_rfl) ?_
                  repeat (refine ord_pas (by rfl) (fun K hK => ?_); go_simp; refine hK _ _ (fun w' hw' => (by first | (go_simp; done) | (go_simp; intro hh; cases hh))) ?_; clear hK K)
                  refine ord_nil ?_
                  have HN2 := Lib.hid (show DI w L D us vs (ns ++ [x.1]) (.slice (if cx = 1 then some ⟨b, off, none⟩ else some ⟨b, off + 2, none⟩) (nx - 1) (cx - 1)) (.slice (if cy = 1 then some ⟨b2, off2, none⟩ else some ⟨b2, off2 + 2, none⟩) (ny - 1) (cy - 1)) A4 (no + 1) c4 (World.drew w4) from ⟨HN.out.1.drew, HN.out.2.1, HN.out.2.2.1, HN.out.2.2.2.1.below (Below.refl _ _).drew, HN.out.2.2.2.2⟩)
                  go_wp2
                  go_roundw
                  case rel => exact ⟨us, vs, ns ++ [x.1], _, nx - 1, cx - 1, _, ny - 1, cy - 1, A4, no + 1, c4, HN2, by omega, by omega, by omega, rfl, rfl, rfl⟩
                  case measure => simp [slen]; omega
                · have HN : Hid (DI w L D us vs ns (.slice (if cx = 1 then some ⟨b, off, none⟩ else some ⟨b, off + 2, none⟩) (nx - 1) (cx - 1)) (.slice (if cy = 1 then some ⟨b2, off2, none⟩ else some ⟨b2, off2 + 2, none⟩) (ny - 1) (cy - 1)) Ao no co WE.drew) := ⟨HBE.out.drew, HLT.out, HLT2.out, HRE.out.below (Below.refl _ _).drew, by rw [← HDD.out, List.map_cons, List.map_cons, difm_eq (Int.not_lt.2 C1.out) (Int.not_lt.2 C2.out) (of_decide_eq_true HD.out)], fun b' hb' => HXP.out b' (List.mem_cons_of_mem _ hb'), fun b' hb' => HYP.out b' (List.mem_cons_of_mem _ hb')⟩
                  go_wp2_with fail
                  go_wp2_with fail
                  refine wp_region_grow none [(true, 0), (true, 1), (true, 2), (true, 3), (true, 4), (true, 5)] (by kernel_rfl) (by kernel_rfl) ?_
                  repeat (refine ord_pas (by rfl) (fun K hK => ?_); go_simp; refine hK _ _ (fun w' hw' => (by first | (go_simp; done) | (go_simp; intro hh; cases hh))) ?_; clear hK K)
                  refine ord_nil ?_
                  go_wp2
                  go_roundw
                  case rel => exact ⟨us, vs, ns, _, nx - 1, cx - 1, _, ny - 1, cy - 1, Ao, no, co, HN, by omega, by omega, by omega, rfl, rfl, rfl⟩
                  case measure => simp [slen]; omega
    · skip
      rw [hg] at CB
      have HC : Hid (dfc xs ys = 3) := dfc_b HGA.out hg
      have HPL : Hid (dfl xs ys = []) := dfl_no (by rw [HC.out]; decide)
      clear hg
      go_enter Tryz.func21, Tryz.ntmps21
      go_wp2_with fail
      refine (CA.out).mono ?_
      rintro e w1 ⟨rfl, hb1⟩
      go_wp2_with fail
      refine (CB.out _ hb1).mono ?_
      rintro e w2 ⟨rfl, hb2⟩
      have HB := Lib.hid (bt hb1 hb2)
      go_wp2
      go_ret2
      exact ⟨HB.out, none, 0, 0, by rw [HC.out]; rfl, by rw [HPL.out]; exact RdK.nil, by omega⟩
  · skip
    rw [hg] at CA
    have HC : Hid (dfc xs ys = 3) := dfc_a hg
    have HPL : Hid (dfl xs ys = []) := dfl_no (by rw [HC.out]; decide)
    clear hg
    go_enter Tryz.func21, Tryz.ntmps21
    go_wp2_with fail
    refine (CA.out).mono ?_
    rintro e w1 ⟨rfl, hb1⟩
    have HB := Lib.hid hb1
    go_wp2
    go_ret2
    exact ⟨HB.out, none, 0, 0, by rw [HC.out]; rfl, by rw [HPL.out]; exact RdK.nil, by omega⟩
end Go.Proofs.YtphofjinncbaaaaGreat
namespace Go.Proofs.YtphofjinncbaaaaGreat
open Go.RowKit
set_option linter.unusedVariables false
set_option linter.unusedSimpArgs false

def ofn (acc : List Bq) (bs : List Bn) : List Bq := bs.foldl (fun q b => insq q (b.1, [])) acc
theorem ofn_snoc {acc : List Bq} {bs : List Bn} {i : Nat} {b : Bn} (h : bs[i]? = some b) : ofn acc (bs.take (i + 1)) = insq (ofn acc (bs.take i)) (b.1, []) := by
  unfold ofn
  rw [take_snoc h, List.foldl_append]
  rfl
theorem ofn_rises (bs : List Bn) : ∀ (acc : List Bq), Rises acc → Rises (ofn acc bs) := by
  induction bs with
  | nil => intro acc h; exact h
  | cons b bs ih => intro acc h; exact ih _ (insq_rises acc _ h)
theorem ofn_mem (bs : List Bn) : ∀ (acc : List Bq) (t : ByteArray), t ∈ (ofn acc bs).map (·.1) ↔ t ∈ acc.map (·.1) ∨ t ∈ bs.map (·.1) := by
  induction bs with
  | nil => intro acc t; simp [ofn]
  | cons b bs ih =>
    intro acc t
    show t ∈ (ofn (insq acc (b.1, [])) bs).map (·.1) ↔ _
    rw [ih, insq_mem]
    simp only [List.map_cons, List.mem_cons]
    constructor
    · rintro ((h | h) | h)
      · exact .inr (.inl h)
      · exact .inl h
      · exact .inr (.inr h)
    · rintro (h | h | h)
      · exact .inl (.inr h)
      · exact .inl (.inl h)
      · exact .inr h
theorem ofn_len (bs : List Bn) : ∀ (acc : List Bq), (ofn acc bs).length ≤ acc.length + bs.length := by
  induction bs with
  | nil => intro acc; exact Nat.le_refl _
  | cons b bs ih =>
    intro acc
    have h1 := ih (insq acc (b.1, []))
    have h2 := (insq_len acc (b.1, [])).2
    show (ofn (insq acc (b.1, [])) bs).length ≤ _
    rw [List.length_cons]
    omega
theorem atr_neg {bs : List Bn} {t : ByteArray} (h : ¬ atn (bs.map (·.1)) t < (bs.map (·.1)).length) : lk (bs.map fq) t = none := by
  rw [lk_none, fq_names]
  intro hm
  obtain ⟨k, hk, e⟩ := mem_nat hm
  exact atn_before _ t k (by omega) e
theorem atr_pos {bs : List Bn} {t : ByteArray} (hg : goodl bs = true) (h : atn (bs.map (·.1)) t < (bs.map (·.1)).length) : ∃ r, bs[atn (bs.map (·.1)) t]? = some r ∧ lk (bs.map fq) t = some (pn r.2) := by
  have hl : atn (bs.map (·.1)) t < bs.length := by simpa using h
  have ht := atn_at _ t h
  refine ⟨_, List.getElem?_eq_getElem hl, ?_⟩
  have hb : (bs.map (·.1))[atn (bs.map (·.1)) t]? = some t := by
    have : nat_ (bs.map (·.1)) (atn (bs.map (·.1)) t) = t := ht
    unfold nat_ at this
    rw [List.getElem?_eq_getElem h] at this ⊢
    simpa using this
  rw [List.getElem?_map, List.getElem?_eq_getElem hl] at hb
  have hb : (bs[atn (bs.map (·.1)) t]).1 = t := by simpa using hb
  have h2 : (bs.map fq)[atn (bs.map (·.1)) t]? = some (fq bs[atn (bs.map (·.1)) t]) := by rw [List.getElem?_map, List.getElem?_eq_getElem hl]; rfl
  have h3 := lk_at (rises_asc.1 (goodl_rises hg)) h2
  have h4 : (fq bs[atn (bs.map (·.1)) t]).1 = t := hb
  rw [h4] at h3
  exact h3
theorem filt_snoc {us : List ByteArray} {k : Nat} {s : ByteArray} {p : ByteArray → Bool} {b : Bool} (h : us[k]? = some s) (hp : p s = b) : (us.take (k + 1)).filter p = (us.take k).filter p ++ (if b = true then [s] else []) := by
  rw [take_snoc h, List.filter_append]
  congr 1
  subst hp
  cases hh : p s <;> simp [hh]
set_option maxHeartbeats 8000000 in
set_option maxRecDepth 100000 in
theorem rdif_any {L n c n2 c2 : Nat} {A A2 : Option Addr} {xs ys : List Bn} {w : World} (h : ListI L w (.slice A n c) xs) (h2 : ListI L w (.slice A2 n2 c2) ys) (hL1 : 1 ≤ L) (hL : L ≤ 268435456) (hn : n ≤ 1073741824) (hn2 : n2 ≤ 1073741824) :
    Calls Tryz.prog 22 #[.slice A n c, .slice A2 n2 c2] w (GDf w xs ys) := by
  have H := Lib.hid h
  have H2 := Lib.hid h2
  have HN1 : Hid (n = xs.length) := h.len.1
  have HN2 : Hid (n2 = ys.length) := h2.len.1
  have CA := Lib.hid (rgood_any h hL1 hL hn)
  have CB := Lib.hid fun w' (hb : Below w.heap.size w w') => rgood_any (h2.below hb) hL1 hL hn2
  clear h h2
  rcases Bool.eq_false_or_eq_true (goodl xs) with hg | hg
  · rw [hg] at CA
    have HGA := Lib.hid hg
    clear hg
    rcases Bool.eq_false_or_eq_true (goodl ys) with hg | hg
    · rw [hg] at CB
      have HGB := Lib.hid hg
      clear hg
      go_enter Tryz.func22, Tryz.ntmps22
      go_wp2_with fail
      refine (CA.out).mono ?_
      rintro e w1 ⟨rfl, hb1⟩
      go_wp2_with fail
      refine (CB.out _ hb1).mono ?_
      rintro e w2 ⟨rfl, hb2⟩
      have HC : Hid (dfc xs ys = 0) := dfc_ok HGA.out HGB.out
      have HDL : Hid (dfl xs ys = difm (xs.map fq) (ys.map fq)) := dfl_ok HC.out
      have hn64 : n ≤ 64 := by have := good_le HGA.out; have := HN1.out; omega
      have hn264 : n2 ≤ 64 := by have := good_le HGB.out; have := HN2.out; omega
      have HBC : Hid (w.heap.size ≤ w2.heap.size) := (bt hb1 hb2).size
      go_wp2_with fail
      refine (rform_any ((H.out.below hb1).below hb2) (good_pos HGA.out) hL1 hL hn).mono ?_
      rintro e w5 ⟨A5, c5, rfl, lo5, hb5⟩
      have HL5 := Lib.hid (lo5.mono HBC.out).n
      have HB5 : Hid (Below w.heap.size w w5) := (bt (bt hb1 hb2) hb5)
      clear lo5 hb5
      go_wp2
      go_loopw [6, 26] (fun ov kv wr => ∃ (j m : Nat) (A' : Option Addr) (c' : Nat), Hid (Below w.heap.size w wr ∧ ListN w.heap.size L wr A' m c' (ofn (xs.map fq) (ys.take j))) ∧ j ≤ n2 ∧ m ≤ 1000 ∧ ov = .slice A' m c' ∧ kv = .int .i64 (j : Int)) (fun _ kv _ => n2 - (intOf kv).toNat)
      case atStart => exact ⟨0, n, A5, c5, ⟨HB5.out, by simpa [ofn] using HL5.out⟩, Nat.zero_le _, by omega, rfl, rfl⟩
      case round =>
        obtain ⟨j, m, A', c', hI, hj, hm, rfl, rfl⟩ := hrel
        by_cases hlt2 : j < n2
        · obtain ⟨b, off, A1, n1, c1, r, e, hb, eq, h0, h1, h3, h4, h5⟩ := (H2.out.below hI.out.1).at (i := j) (by have := HN2.out; omega)
          have HQ := Lib.hid eq
          clear eq h3 h4
          subst e
          have x0 := h0.1
          have x1 := h1.1
          have i1 : (0 : Int) ≤ (j : Int) := by omega
          have i2 : (j : Int) < (n2 : Int) := by omega
          have HSN : Hid (ofn (xs.map fq) (ys.take (j + 1)) = insq (ofn (xs.map fq) (ys.take j)) (r.1, [])) := ofn_snoc HQ.out
          have HRI : Hid (Rises (ofn (xs.map fq) (ys.take j))) := ofn_rises _ _ (goodl_rises HGA.out)
          clear h0 h1
          have HBA : Hid (Below w.heap.size w (World.alloc wr (.cells #[.string r.1, .slice A1 n1 c1] 89))) := bt hI.out.1 (belowA _ _)
          have C := Lib.hid (rsetn_any (t := r.1) (A2 := A1) (n2 := n1) (c2 := c1) (ps := []) (hI.out.2.below (belowA _ (.cells #[.string r.1, .slice A1 n1 c1] 89))) HRI.out ⟨rfl, trivial⟩ (by omega) HBA.out.size)
          go_wp2_with fail
          refine C.out.mono ?_
          rintro e w2 ⟨A7, m7, c7, rfl, hl7, hb7⟩
          have HN : Hid (Below w.heap.size w w2 ∧ ListN w.heap.size L w2 A7 m7 c7 (ofn (xs.map fq) (ys.take (j + 1)))) := ⟨bt HBA.out hb7, by rw [HSN.out]; exact hl7⟩
          have hm7 : m7 ≤ 1000 := by
            have h7 := HN.out.2.len
            have h8 := ofn_len (ys.take (j + 1)) (xs.map fq)
            rw [List.length_take, List.length_map] at h8
            have := HN1.out
            have := HN2.out
            omega
          clear hl7 hb7 x0 x1 C hI
          go_wp2
          go_roundw
          case rel => exact ⟨j + 1, m7, A7, c7, HN, by omega, hm7, rfl, by go_num⟩
          case measure => simp [intOf]; omega
        · obtain rfl : n2 = j := by omega
          obtain ⟨us, hus⟩ : ∃ us, us = (ofn (xs.map fq) ys).map (·.1) := ⟨_, rfl⟩
          have HF : Hid (ListN w.heap.size L wr A' m c' (ofn (xs.map fq) ys)) := by
            have h6 := hI.out.2
            rw [List.take_of_length_le (by have := HN2.out; omega)] at h6
            exact h6
          have HLU : Hid (us.length = m) := by show _ = _; rw [hus, List.length_map]; exact HF.out.len.symm
          have HUM : Hid (us.filter (difP (xs.map fq) (ys.map fq)) = difm (xs.map fq) (ys.map fq)) := by
            refine difm_filter (rises_asc.1 (goodl_rises HGA.out)) (rises_asc.1 (goodl_rises HGB.out)) ?_ fun t => ?_
            · rw [hus]; exact rises_asc.1 (ofn_rises _ _ (goodl_rises HGA.out))
            · rw [hus, ofn_mem, fq_names ys]
          have HUS := Lib.hid hus
          have HBR := Lib.hid hI.out.1
          clear hI hus
          obtain ⟨wd, rfl⟩ : ∃ wd : World, wd = wr := ⟨_, rfl⟩
          obtain ⟨P, hP⟩ : ∃ P, P = difP (xs.map fq) (ys.map fq) := ⟨_, rfl⟩
          have HPP := Lib.hid hP
          rw [← hP] at HUM
          clear hP
          go_wp2
          go_loopw [9, 37] (fun ov kv wr => ∃ (k p : Nat) (A3 : Option Addr) (c3 : Nat), Hid (Below wd.heap.size wd wr ∧ RowK 1 9 wd.heap.size wr A3 p c3 (((us.take k).filter P).map Value.string)) ∧ k ≤ m ∧ p ≤ k ∧ ov = .slice A3 p c3 ∧ kv = .int .i64 (k : Int)) (fun _ kv _ => m - (intOf kv).toNat)
          case atStart => exact ⟨0, 0, _, _, ⟨belowA _ _, by have := RowK.lit (k := 1) (T := 9) (B := wd.heap.size) wd 0 [] rfl rfl (by omega) (Nat.le_refl _); simpa using this⟩, Nat.zero_le _, Nat.zero_le _, rfl, rfl⟩
          case round =>
            obtain ⟨k, p, A3, c3, hI, hk, hp, rfl, rfl⟩ := hrel
            by_cases hlt3 : k < m
            · have HX : Hid (∃ (hs : List Hb) (hd : Hb), RdK 2 wr A' m c' (hs.flatMap hbv) ∧ hs[k]? = some hd ∧ us[k]? = some hd.1) := by
                obtain ⟨hs, k1, k2⟩ := HF.out.below hI.out.1
                obtain ⟨hd, x', e1, e2, e3⟩ := k2.at (i := k) (by have := HLU.out; rw [HUS.out, List.length_map] at this; omega)
                refine ⟨hs, hd, k1.rd, e1, ?_⟩
                rw [HUS.out, List.getElem?_map, e2, e3.1]; rfl
              obtain ⟨hs, hd, k1, k2, k3⟩ := HX.out
              obtain ⟨b, off, e, hbl, g0, g1⟩ := k1.at2 k2
              subst e
              obtain ⟨t, A1, n1, c1⟩ := hd
              have HT := Lib.hid (show us[k]? = some t from k3)
              have x0 := g0.1
              have x1 := g1.1
              simp only [shv] at x1
              have i1 : (0 : Int) ≤ (k : Int) := by omega
              have i2 : (k : Int) < (m : Int) := by omega
              clear HX k1 k2 k3 g0 g1
              have HBW : Hid (Below w.heap.size w wr) := bt HBR.out hI.out.1
              have CX := Lib.hid fun w' (hb : Below wr.heap.size wr w') => atname_any (t := t) ((H.out.below HBW.out).below hb).nam hn
              have CY := Lib.hid fun w' (hb : Below wr.heap.size wr w') => atname_any (t := t) ((H2.out.below HBW.out).below hb).nam hn2
              by_cases hx : atn (xs.map (·.1)) t < (xs.map (·.1)).length
              · by_cases hy : atn (ys.map (·.1)) t < (ys.map (·.1)).length
                · obtain ⟨r1, er1, hl1⟩ := atr_pos HGA.out hx
                  obtain ⟨r2, er2, hl2⟩ := atr_pos HGB.out hy
                  rw [atr_yes hx] at CX
                  rw [atr_yes hy] at CY
                  generalize hia : atn (xs.map (·.1)) t = ia at CX er1 hx
                  generalize hjb : atn (ys.map (·.1)) t = jb at CY er2 hy
                  rw [List.length_map] at hx hy
                  have hi1 : ia < n := by have := HN1.out; omega
                  have hj1 : jb < n2 := by have := HN2.out; omega
                  obtain ⟨d, hd⟩ : ∃ d, decide (pn r1.2 = pn r2.2) = d := ⟨_, rfl⟩
                  have HPT : Hid (P t = !d) := by show _ = _; rw [HPP.out, ← hd]; unfold difP; rw [hl1, hl2]
                  have HD := Lib.hid hd
                  have HR1 := Lib.hid (good_at0 HGA.out er1)
                  have HR2 := Lib.hid (good_at0 HGB.out er2)
                  obtain ⟨b1, off1, B1, m1, d1, r1', e1, hb1, eq1, p0, p1, p3, p4, p5⟩ := (H.out.below HBW.out).at (i := ia) hx
                  obtain ⟨b2, off2, B2, m2, d2, r2', e2, hb2, eq2, q0, q1, q3, q4, q5⟩ := (H2.out.below HBW.out).at (i := jb) hy
                  obtain rfl : r1 = r1' := by have := er1.symm.trans eq1; injection this
                  obtain rfl : r2 = r2' := by have := er2.symm.trans eq2; injection this
                  have HP1 := Lib.hid p3
                  have HP2 := Lib.hid q3
                  subst e1 e2
                  have ii1 : (0 : Int) ≤ (ia : Int) := by omega
                  have ii2 : (ia : Int) < (n : Int) := by omega
                  have jj1 : (0 : Int) ≤ (jb : Int) := by omega
                  have dd1 : decide ((ia : Int) < 0) = false := decide_eq_false (by omega)
                  have dd2 : decide ((jb : Int) < 0) = false := decide_eq_false (by omega)
                  have jj2 : (jb : Int) < (n2 : Int) := by omega
                  have hm1 : m1 ≤ 1073741824 := by omega
                  have hm2 : m2 ≤ 1073741824 := by omega
                  clear er1 er2 eq1 eq2 hl1 hl2 hd p0 q0 p3 p4 q3 q4 hia hjb
                  go_wp2_with fail
                  go_wp2_with fail
                  have e_f0 := (At.boxc (i := 0) (v := .string t) (t := 89) (b := wr.heap.size) wr #[.string t, .slice A1 n1 c1] rfl (by simp)).1
                  have g_f0 := At.grow (At.boxc (i := 0) (v := .string t) (t := 89) (b := wr.heap.size) wr #[.string t, .slice A1 n1 c1] rfl (by simp))
                  refine wp_region_grow none [(true, 0), (true, 1), (true, 2), (true, 4), (true, 5), (true, 6), (false, 3), (false, 7), (true, 8), (true, 9)] (by kernel_rfl) (by kernel_rfl) ?_
                  repeat (refine ord_pas (by rfl) (fun K hK => ?_); go_simp; refine hK _ _ (fun w' hw' => (by first | (go_simp; done) | (go_simp; intro hh; cases hh))) ?_; clear hK K)
                  (refine ord_call (by rfl) (fun K hK => ?_); go_simp; refine hK _ _ ?_; clear hK K)
                  refine (CX.out _ (bt ((Below.refl _ _).alloc (Nat.le_refl _) (.cells #[.string t, .slice A1 n1 c1] 89)) (Below.refl _ _).drew)).mono ?_
                  rintro e w1 ⟨rfl, hb1⟩
                  refine ⟨_, rfl, Grow.of_below hb1, ?_⟩
                  (refine ord_norm (fun K hK => ?_); go_simp; refine hK _ ?_; clear hK K)
                  (refine ord_call (by rfl) (fun K hK => ?_); go_simp; refine hK _ _ ?_; clear hK K)
                  refine (CY.out _ (bt (bt ((Below.refl _ _).alloc (Nat.le_refl _) (.cells #[.string t, .slice A1 n1 c1] 89)) (Below.refl _ _).drew) hb1)).mono ?_
                  rintro e w2 ⟨rfl, hb2⟩
                  refine ⟨_, rfl, Grow.of_below hb2, ?_⟩
                  (refine ord_norm (fun K hK => ?_); go_simp; refine hK _ ?_; clear hK K)
                  repeat (refine ord_pas (by rfl) (fun K hK => ?_); go_simp; refine hK _ _ (fun w' hw' => (by first | (go_simp; done) | (go_simp; intro hh; cases hh))) ?_; clear hK K)
                  refine ord_nil ?_
                  go_wp2_with fail
                  go_wp2_with fail
                  have e_g1 := ((((p1.below ((Below.refl _ _).alloc (Nat.le_refl _) (.cells #[.string t, .slice A1 n1 c1] 89))).below (Below.refl _ _).drew).below hb1).below hb2).1
                  have g_g1 := At.grow ((((p1.below ((Below.refl _ _).alloc (Nat.le_refl _) (.cells #[.string t, .slice A1 n1 c1] 89))).below (Below.refl _ _).drew).below hb1).below hb2)
                  have e_k1 := ((((q1.below ((Below.refl _ _).alloc (Nat.le_refl _) (.cells #[.string t, .slice A1 n1 c1] 89))).below (Below.refl _ _).drew).below hb1).below hb2).1
                  have g_k1 := At.grow ((((q1.below ((Below.refl _ _).alloc (Nat.le_refl _) (.cells #[.string t, .slice A1 n1 c1] 89))).below (Below.refl _ _).drew).below hb1).below hb2)
                  refine wp_region_grow none [(true, 0), (true, 1), (true, 2), (true, 3), (true, 4), (true, 5), (true, 6), (true, 7), (true, 8), (true, 9), (true, 10), (true, 11), (true, 13), (true, 14), (true, 15), (true, 16), (true, 17), (false, 12), (false, 18), (false, 19), (true, 20), (true, 21)] (by kernel_rfl) (by kernel_rfl) ?_
                  repeat (refine ord_pas (by rfl) (fun K hK => ?_); go_simp; refine hK _ _ (fun w' hw' => (by first | (go_simp; done) | (go_simp; intro hh; cases hh))) ?_; clear hK K)
                  (refine ord_call (by rfl) (fun K hK => ?_); go_simp; refine hK _ _ ?_; clear hK K)
                  refine (form10_any (HP1.out.below (bt (bt (bt (bt ((Below.refl _ _).alloc (Nat.le_refl _) (.cells #[.string t, .slice A1 n1 c1] 89)) (Below.refl _ _).drew) hb1) hb2) (Below.refl _ _).drew)) (fitc_pos (rightc_zero HR1.out).2) hL1 hL hm1).mono ?_
                  rintro e w6 ⟨v6, rfl, hpo6, hb6⟩
                  obtain ⟨A6, n6, c6, hs6, rfl, q61, q62, q63⟩ := id hpo6
                  have hn6 : n6 ≤ 1073741824 := by rw [q62]; have h7 := HP1.out.len; have h8 := pn_len r1.2; omega
                  clear q61 q62 q63
                  refine ⟨_, rfl, Grow.of_below hb6, ?_⟩
                  (refine ord_norm (fun K hK => ?_); go_simp; refine hK _ ?_; clear hK K)
                  (refine ord_call (by rfl) (fun K hK => ?_); go_simp; refine hK _ _ ?_; clear hK K)
                  refine (form10_any (HP2.out.below (bt (bt (bt (bt (bt ((Below.refl _ _).alloc (Nat.le_refl _) (.cells #[.string t, .slice A1 n1 c1] 89)) (Below.refl _ _).drew) hb1) hb2) (Below.refl _ _).drew) hb6)) (fitc_pos (rightc_zero HR2.out).2) hL1 hL hm2).mono ?_
                  rintro e w7 ⟨v7, rfl, hpo7, hb7⟩
                  obtain ⟨A7, n7, c7, hs7, rfl, q71, q72, q73⟩ := id hpo7
                  clear q71 q72 q73
                  refine ⟨_, rfl, Grow.of_below hb7, ?_⟩
                  (refine ord_norm (fun K hK => ?_); go_simp; refine hK _ ?_; clear hK K)
                  have CS := Lib.hid (same10_any (hpo6.c.below hb7) hpo7.c (by omega) hn6)
                  rw [HD.out] at CS
                  (refine ord_call (by rfl) (fun K hK => ?_); go_simp; refine hK _ _ ?_; clear hK K)
                  refine (CS.out).mono ?_
                  rintro e w3 ⟨rfl, hb3⟩
                  refine ⟨_, rfl, Grow.of_below hb3, ?_⟩
                  (refine ord_norm (fun K hK => ?_); go_simp; refine hK _ ?_; clear hK K)
                  repeat (refine ord_pas (by rfl) (fun K hK => ?_); go_simp; refine hK _ _ (fun w' hw' => (by first | (go_simp; done) | (go_simp; intro hh; cases hh))) ?_; clear hK K)
                  refine ord_nil ?_
                  cases d
                  · have HST : Hid ((us.take (k + 1)).filter P = (us.take k).filter P ++ [t]) := filt_snoc HT.out HPT.out
                    clear x0 x1 CX CY CS g_g1 e_g1 g_k1 e_k1 g_f0 e_f0
                    have y0 := ((((((((At.boxc (i := 0) (v := .string t) (t := 89) (b := wr.heap.size) wr #[.string t, .slice A1 n1 c1] rfl (by simp)).below (Below.refl _ _).drew).below hb1).below hb2).below (Below.refl _ _).drew).below hb6).below hb7).below hb3).1
                    have HBW2 := Lib.hid (bt hI.out.1 (bt (bt (bt (bt (bt (bt (bt ((Below.refl _ _).alloc (Nat.le_refl _) (.cells #[.string t, .slice A1 n1 c1] 89)) (Below.refl _ _).drew) hb1) hb2) (Below.refl _ _).drew) hb6) hb7) hb3))
                    have HRW2 := Lib.hid (hI.out.2.below (bt (bt (bt (bt (bt (bt (bt ((Below.refl _ _).alloc (Nat.le_refl _) (.cells #[.string t, .slice A1 n1 c1] 89)) (Below.refl _ _).drew) hb1) hb2) (Below.refl _ _).drew) hb6) hb7) hb3))
                    obtain ⟨WE, hWE⟩ : ∃ WE, WE = w3 := ⟨_, rfl⟩
                    rw [← hWE] at y0 HBW2 HRW2 ⊢
                    clear hWE hI
                    go_wp2_with (at_builtin; (refine wpList_appK rfl (.tmp 71) (.tmp 74) rfl elText (B := wd.heap.size) (us := [.string t]) rfl rfl (HRW2.out.below (belowA _ _)) (RowK.lit (k := 1) (T := 9) (B := 0) WE 1 [.string t] (by simp) rfl (by omega) (Nat.zero_le _)).rd (by simp [Value.oneCell']) (by omega) (by omega) (by have := HBW2.out.size; simp; omega) ?_); intro A4 c4 w4 hoo hb4 _; have HN : Hid (Below wd.heap.size wd w4 ∧ RowK 1 9 wd.heap.size w4 A4 (p + 1) c4 (((us.take (k + 1)).filter P).map Value.string)) := ⟨(HBW2.out.alloc HBW2.out.size _).trans hb4, (by rw [HST.out]; simpa using hoo)⟩; clear hoo hb4)
                    go_roundw
                    case rel => exact ⟨k + 1, p + 1, A4, c4, HN, by omega, by omega, rfl, by go_num⟩
                    case measure => simp [intOf]; omega
                  · have HST : Hid ((us.take (k + 1)).filter P = (us.take k).filter P) := by
                      show _ = _
                      rw [filt_snoc HT.out HPT.out]
                      simp
                    have HN : Hid (Below wd.heap.size wd w3 ∧ RowK 1 9 wd.heap.size w3 A3 p c3 (((us.take (k + 1)).filter P).map Value.string)) := ⟨bt hI.out.1 (bt (bt (bt (bt (bt (bt (bt ((Below.refl _ _).alloc (Nat.le_refl _) (.cells #[.string t, .slice A1 n1 c1] 89)) (Below.refl _ _).drew) hb1) hb2) (Below.refl _ _).drew) hb6) hb7) hb3), by rw [HST.out]; exact hI.out.2.below (bt (bt (bt (bt (bt (bt (bt ((Below.refl _ _).alloc (Nat.le_refl _) (.cells #[.string t, .slice A1 n1 c1] 89)) (Below.refl _ _).drew) hb1) hb2) (Below.refl _ _).drew) hb6) hb7) hb3)⟩
                    clear x0 x1 CX CY CS g_g1 e_g1 g_k1 e_k1 g_f0 e_f0 hI
                    go_wp2
                    go_roundw
                    case rel => exact ⟨k + 1, p, A3, c3, HN, by omega, by omega, rfl, by go_num⟩
                    case measure => simp [intOf]; omega
                · have hPT : P t = true := by rw [HPP.out]; exact difP_none (.inr (atr_neg hy))
                  have HST : Hid ((us.take (k + 1)).filter P = (us.take k).filter P ++ [t]) := filt_snoc HT.out hPT
                  rw [atr_yes hx] at CX
                  rw [atr_no hy] at CY
                  generalize hia : atn (xs.map (·.1)) t = ia at CX
                  have dd1 : decide ((ia : Int) < 0) = false := decide_eq_false (by omega)
                  clear hia hx hy hPT
                  go_wp2_with fail
                  go_wp2_with fail
                  have e_f0 := (At.boxc (i := 0) (v := .string t) (t := 89) (b := wr.heap.size) wr #[.string t, .slice A1 n1 c1] rfl (by simp)).1
                  have g_f0 := At.grow (At.boxc (i := 0) (v := .string t) (t := 89) (b := wr.heap.size) wr #[.string t, .slice A1 n1 c1] rfl (by simp))
                  refine wp_region_grow none [(true, 0), (true, 1), (true, 2), (true, 4), (true, 5), (true, 6), (false, 3), (false, 7), (true, 8), (true, 9)] (by kernel_rfl) (by kernel_rfl) ?_
                  repeat (refine ord_pas (by rfl) (fun K hK => ?_); go_simp; refine hK _ _ (fun w' hw' => (by first | (go_simp; done) | (go_simp; intro hh; cases hh))) ?_; clear hK K)
                  (refine ord_call (by rfl) (fun K hK => ?_); go_simp; refine hK _ _ ?_; clear hK K)
                  refine (CX.out _ (bt ((Below.refl _ _).alloc (Nat.le_refl _) (.cells #[.string t, .slice A1 n1 c1] 89)) (Below.refl _ _).drew)).mono ?_
                  rintro e w1 ⟨rfl, hb1⟩
                  refine ⟨_, rfl, Grow.of_below hb1, ?_⟩
                  (refine ord_norm (fun K hK => ?_); go_simp; refine hK _ ?_; clear hK K)
                  (refine ord_call (by rfl) (fun K hK => ?_); go_simp; refine hK _ _ ?_; clear hK K)
                  refine (CY.out _ (bt (bt ((Below.refl _ _).alloc (Nat.le_refl _) (.cells #[.string t, .slice A1 n1 c1] 89)) (Below.refl _ _).drew) hb1)).mono ?_
                  rintro e w2 ⟨rfl, hb2⟩
                  refine ⟨_, rfl, Grow.of_below hb2, ?_⟩
                  (refine ord_norm (fun K hK => ?_); go_simp; refine hK _ ?_; clear hK K)
                  repeat (refine ord_pas (by rfl) (fun K hK => ?_); go_simp; refine hK _ _ (fun w' hw' => (by first | (go_simp; done) | (go_simp; intro hh; cases hh))) ?_; clear hK K)
                  refine ord_nil ?_
                  go_wp2_with fail
                  go_wp2_with fail
                  refine wp_region_grow none [(true, 0), (true, 1), (true, 2), (true, 3), (true, 4), (true, 5), (true, 6), (true, 7), (true, 8), (true, 9), (true, 10), (true, 11), (true, 13), (true, 14), (true, 15), (true, 16), (true, 17), (true, 12), (true, 18), (true, 19), (true, 20), (true, 21)] (by kernel_rfl) (by kernel_rfl) ?_
                  repeat (refine ord_pas (by rfl) (fun K hK => ?_); go_simp; refine hK _ _ (fun w' hw' => (by first | (go_simp; done) | (go_simp; intro hh; cases hh))) ?_; clear hK K)
                  refine ord_nil ?_
                  clear x0 x1 CX CY g_f0 e_f0
                  have y0 := (((((At.boxc (i := 0) (v := .string t) (t := 89) (b := wr.heap.size) wr #[.string t, .slice A1 n1 c1] rfl (by simp)).below (Below.refl _ _).drew).below hb1).below hb2).below (Below.refl _ _).drew).1
                  have HBW2 := Lib.hid (bt hI.out.1 (bt (bt (bt (bt ((Below.refl _ _).alloc (Nat.le_refl _) (.cells #[.string t, .slice A1 n1 c1] 89)) (Below.refl _ _).drew) hb1) hb2) (Below.refl _ _).drew))
                  have HRW2 := Lib.hid (hI.out.2.below (bt (bt (bt (bt ((Below.refl _ _).alloc (Nat.le_refl _) (.cells #[.string t, .slice A1 n1 c1] 89)) (Below.refl _ _).drew) hb1) hb2) (Below.refl _ _).drew))
                  obtain ⟨WE, hWE⟩ : ∃ WE, WE = (World.drew w2) := ⟨_, rfl⟩
                  rw [← hWE] at y0 HBW2 HRW2 ⊢
                  clear hWE hI
                  go_wp2_with (at_builtin; (refine wpList_appK rfl (.tmp 71) (.tmp 74) rfl elText (B := wd.heap.size) (us := [.string t]) rfl rfl (HRW2.out.below (belowA _ _)) (RowK.lit (k := 1) (T := 9) (B := 0) WE 1 [.string t] (by simp) rfl (by omega) (Nat.zero_le _)).rd (by simp [Value.oneCell']) (by omega) (by omega) (by have := HBW2.out.size; simp; omega) ?_); intro A4 c4 w4 hoo hb4 _; have HN : Hid (Below wd.heap.size wd w4 ∧ RowK 1 9 wd.heap.size w4 A4 (p + 1) c4 (((us.take (k + 1)).filter P).map Value.string)) := ⟨(HBW2.out.alloc HBW2.out.size _).trans hb4, (by rw [HST.out]; simpa using hoo)⟩; clear hoo hb4)
                  go_roundw
                  case rel => exact ⟨k + 1, p + 1, A4, c4, HN, by omega, by omega, rfl, by go_num⟩
                  case measure => simp [intOf]; omega
              · have hPT : P t = true := by rw [HPP.out]; exact difP_none (.inl (atr_neg hx))
                have HST : Hid ((us.take (k + 1)).filter P = (us.take k).filter P ++ [t]) := filt_snoc HT.out hPT
                rw [atr_no hx] at CX
                obtain ⟨z, hz⟩ : ∃ z, atr (ys.map (·.1)) t = z := ⟨_, rfl⟩
                rw [hz] at CY
                clear hz hx hPT
                go_wp2_with fail
                go_wp2_with fail
                have e_f0 := (At.boxc (i := 0) (v := .string t) (t := 89) (b := wr.heap.size) wr #[.string t, .slice A1 n1 c1] rfl (by simp)).1
                have g_f0 := At.grow (At.boxc (i := 0) (v := .string t) (t := 89) (b := wr.heap.size) wr #[.string t, .slice A1 n1 c1] rfl (by simp))
                refine wp_region_grow none [(true, 0), (true, 1), (true, 2), (true, 4), (true, 5), (true, 6), (false, 3), (false, 7), (true, 8), (true, 9)] (by kernel_rfl) (by kernel_rfl) ?_
                repeat (refine ord_pas (by rfl) (fun K hK => ?_); go_simp; refine hK _ _ (fun w' hw' => (by first | (go_simp; done) | (go_simp; intro hh; cases hh))) ?_; clear hK K)
                (refine ord_call (by rfl) (fun K hK => ?_); go_simp; refine hK _ _ ?_; clear hK K)
                refine (CX.out _ (bt ((Below.refl _ _).alloc (Nat.le_refl _) (.cells #[.string t, .slice A1 n1 c1] 89)) (Below.refl _ _).drew)).mono ?_
                rintro e w1 ⟨rfl, hb1⟩
                refine ⟨_, rfl, Grow.of_below hb1, ?_⟩
                (refine ord_norm (fun K hK => ?_); go_simp; refine hK _ ?_; clear hK K)
                (refine ord_call (by rfl) (fun K hK => ?_); go_simp; refine hK _ _ ?_; clear hK K)
                refine (CY.out _ (bt (bt ((Below.refl _ _).alloc (Nat.le_refl _) (.cells #[.string t, .slice A1 n1 c1] 89)) (Below.refl _ _).drew) hb1)).mono ?_
                rintro e w2 ⟨rfl, hb2⟩
                refine ⟨_, rfl, Grow.of_below hb2, ?_⟩
                (refine ord_norm (fun K hK => ?_); go_simp; refine hK _ ?_; clear hK K)
                repeat (refine ord_pas (by rfl) (fun K hK => ?_); go_simp; refine hK _ _ (fun w' hw' => (by first | (go_simp; done) | (go_simp; intro hh; cases hh))) ?_; clear hK K)
                refine ord_nil ?_
                go_wp2_with fail
                go_wp2_with fail
                refine wp_region_grow none [(true, 0), (true, 1), (true, 2), (true, 3), (true, 4), (true, 5), (true, 6), (true, 7), (true, 8), (true, 9), (true, 10), (true, 11), (true, 13), (true, 14), (true, 15), (true, 16), (true, 17), (true, 12), (true, 18), (true, 19), (true, 20), (true, 21)] (by kernel_rfl) (by kernel_rfl) ?_
                repeat (refine ord_pas (by rfl) (fun K hK => ?_); go_simp; refine hK _ _ (fun w' hw' => (by first | (go_simp; done) | (go_simp; intro hh; cases hh))) ?_; clear hK K)
                refine ord_nil ?_
                clear x0 x1 CX CY g_f0 e_f0
                have y0 := (((((At.boxc (i := 0) (v := .string t) (t := 89) (b := wr.heap.size) wr #[.string t, .slice A1 n1 c1] rfl (by simp)).below (Below.refl _ _).drew).below hb1).below hb2).below (Below.refl _ _).drew).1
                have HBW2 := Lib.hid (bt hI.out.1 (bt (bt (bt (bt ((Below.refl _ _).alloc (Nat.le_refl _) (.cells #[.string t, .slice A1 n1 c1] 89)) (Below.refl _ _).drew) hb1) hb2) (Below.refl _ _).drew))
                have HRW2 := Lib.hid (hI.out.2.below (bt (bt (bt (bt ((Below.refl _ _).alloc (Nat.le_refl _) (.cells #[.string t, .slice A1 n1 c1] 89)) (Below.refl _ _).drew) hb1) hb2) (Below.refl _ _).drew))
                obtain ⟨WE, hWE⟩ : ∃ WE, WE = (World.drew w2) := ⟨_, rfl⟩
                rw [← hWE] at y0 HBW2 HRW2 ⊢
                clear hWE hI
                go_wp2_with (at_builtin; (refine wpList_appK rfl (.tmp 71) (.tmp 74) rfl elText (B := wd.heap.size) (us := [.string t]) rfl rfl (HRW2.out.below (belowA _ _)) (RowK.lit (k := 1) (T := 9) (B := 0) WE 1 [.string t] (by simp) rfl (by omega) (Nat.zero_le _)).rd (by simp [Value.oneCell']) (by omega) (by omega) (by have := HBW2.out.size; simp; omega) ?_); intro A4 c4 w4 hoo hb4 _; have HN : Hid (Below wd.heap.size wd w4 ∧ RowK 1 9 wd.heap.size w4 A4 (p + 1) c4 (((us.take (k + 1)).filter P).map Value.string)) := ⟨(HBW2.out.alloc HBW2.out.size _).trans hb4, (by rw [HST.out]; simpa using hoo)⟩; clear hoo hb4)
                go_roundw
                case rel => exact ⟨k + 1, p + 1, A4, c4, HN, by omega, by omega, rfl, by go_num⟩
                case measure => simp [intOf]; omega
            · obtain rfl : k = m := by omega
              have HR : Hid (Below w.heap.size w wr ∧ RdK 1 wr A3 p c3 ((dfl xs ys).map Value.string)) := by
                refine ⟨bt HBR.out hI.out.1, ?_⟩
                have h6 := hI.out.2
                rw [List.take_of_length_le (by have := HLU.out; omega), HUM.out] at h6
                rw [HDL.out]
                exact h6.rd
              have hp128 : p ≤ 128 := by
                have h7 := HLU.out
                have h8 := ofn_len ys (xs.map fq)
                rw [HUS.out, List.length_map] at h7
                rw [List.length_map] at h8
                have := HN1.out
                have := HN2.out
                omega
              clear hI
              go_wp2
              go_ret2
              exact ⟨HR.out.1, A3, p, c3, by rw [HC.out]; rfl, HR.out.2, hp128⟩
    · skip
      rw [hg] at CB
      have HC : Hid (dfc xs ys = 3) := dfc_b HGA.out hg
      have HPL : Hid (dfl xs ys = []) := dfl_no (by rw [HC.out]; decide)
      clear hg
      go_enter Tryz.func22, Tryz.ntmps22
      go_wp2_with fail
      refine (CA.out).mono ?_
      rintro e w1 ⟨rfl, hb1⟩
      go_wp2_with fail
      refine (CB.out _ hb1).mono ?_
      rintro e w2 ⟨rfl, hb2⟩
      have HB := Lib.hid (bt hb1 hb2)
      go_wp2
      go_ret2
      exact ⟨HB.out, none, 0, 0, by rw [HC.out]; rfl, by rw [HPL.out]; exact RdK.nil, by omega⟩
  · skip
    rw [hg] at CA
    have HC : Hid (dfc xs ys = 3) := dfc_a hg
    have HPL : Hid (dfl xs ys = []) := dfl_no (by rw [HC.out]; decide)
    clear hg
    go_enter Tryz.func22, Tryz.ntmps22
    go_wp2_with fail
    refine (CA.out).mono ?_
    rintro e w1 ⟨rfl, hb1⟩
    have HB := Lib.hid hb1
    go_wp2
    go_ret2
    exact ⟨HB.out, none, 0, 0, by rw [HC.out]; rfl, by rw [HPL.out]; exact RdK.nil, by omega⟩
end Go.Proofs.YtphofjinncbaaaaGreat
namespace Go.Proofs.YtphofjinncbaaaaGreat
open Go.RowKit
set_option linter.unusedVariables false
set_option linter.unusedSimpArgs false

def smb (a b : List Bn) : Bool := decide (dfc a b = 0 ∧ (dfl a b).length = 0)
theorem dfc_two (a b : List Bn) : dfc a b = 0 ∨ dfc a b = 3 := by
  unfold dfc
  split
  · split
    · exact .inl rfl
    · exact .inr rfl
  · exact .inr rfl
set_option maxHeartbeats 1000000 in
theorem esame_any {L n c n2 c2 : Nat} {A A2 : Option Addr} {xs ys : List Bn} {w : World} (h : ListI L w (.slice A n c) xs) (h2 : ListI L w (.slice A2 n2 c2) ys) (hL1 : 1 ≤ L) (hL : L ≤ 268435456) (hn : n ≤ 1073741824) (hn2 : n2 ≤ 1073741824) :
    Calls Tryz.prog 24 #[.slice A n c, .slice A2 n2 c2] w (Keeps (.bool (smb xs ys)) w) := by
  have C := Lib.hid (edif_any h h2 hL1 hL hn hn2)
  clear h h2
  go_enter Tryz.func24, Tryz.ntmps24
  go_wp2_with fail
  refine C.out.mono ?_
  rintro e w1 ⟨hb, A3, n3, c3, rfl, hr, h128⟩
  have HB := Lib.hid hb
  have HL : Hid ((dfl xs ys).length = n3) := by have h1 := hr.1.1; rw [List.length_map] at h1; show _ = _; omega
  clear hb hr C
  rcases dfc_two xs ys with hz | hz
  · rw [hz]
    have HS : Hid (smb xs ys = decide (n3 = 0)) := by show _ = _; unfold smb; rw [hz, HL.out]; simp
    clear hz
    by_cases h0 : n3 = 0
    · subst h0
      go_wp2
      go_ret
      exact ⟨by rw [HS.out]; rfl, HB.out⟩
    · have d : ((n3 : Int) == 0) = false := by rw [beq_eq_false_iff_ne]; omega
      have HF : Hid (smb xs ys = false) := by rw [HS.out]; exact decide_eq_false h0
      clear h0
      go_wp2
      go_ret
      exact ⟨by rw [HF.out]; simp, HB.out⟩
  · rw [hz]
    have HS : Hid (smb xs ys = false) := by show _ = _; unfold smb; rw [hz]; simp
    clear hz
    go_wp2
    go_ret
    exact ⟨by rw [HS.out]; rfl, HB.out⟩
set_option maxHeartbeats 1000000 in
theorem rsame_any {L n c n2 c2 : Nat} {A A2 : Option Addr} {xs ys : List Bn} {w : World} (h : ListI L w (.slice A n c) xs) (h2 : ListI L w (.slice A2 n2 c2) ys) (hL1 : 1 ≤ L) (hL : L ≤ 268435456) (hn : n ≤ 1073741824) (hn2 : n2 ≤ 1073741824) :
    Calls Tryz.prog 25 #[.slice A n c, .slice A2 n2 c2] w (Keeps (.bool (smb xs ys)) w) := by
  have C := Lib.hid (rdif_any h h2 hL1 hL hn hn2)
  clear h h2
  go_enter Tryz.func25, Tryz.ntmps25
  go_wp2_with fail
  refine C.out.mono ?_
  rintro e w1 ⟨hb, A3, n3, c3, rfl, hr, h128⟩
  have HB := Lib.hid hb
  have HL : Hid ((dfl xs ys).length = n3) := by have h1 := hr.1.1; rw [List.length_map] at h1; show _ = _; omega
  clear hb hr C
  rcases dfc_two xs ys with hz | hz
  · rw [hz]
    have HS : Hid (smb xs ys = decide (n3 = 0)) := by show _ = _; unfold smb; rw [hz, HL.out]; simp
    clear hz
    by_cases h0 : n3 = 0
    · subst h0
      go_wp2
      go_ret
      exact ⟨by rw [HS.out]; rfl, HB.out⟩
    · have d : ((n3 : Int) == 0) = false := by rw [beq_eq_false_iff_ne]; omega
      have HF : Hid (smb xs ys = false) := by rw [HS.out]; exact decide_eq_false h0
      clear h0
      go_wp2
      go_ret
      exact ⟨by rw [HF.out]; simp, HB.out⟩
  · rw [hz]
    have HS : Hid (smb xs ys = false) := by show _ = _; unfold smb; rw [hz]; simp
    clear hz
    go_wp2
    go_ret
    exact ⟨by rw [HS.out]; rfl, HB.out⟩
theorem ovq_len (a b : List Bn) : (ovq a b).length ≤ a.length + b.length := by
  unfold ovq
  split
  · have := ofq_len2 b (a.map fq)
    rw [List.length_map] at this
    exact this
  · simp
set_option maxHeartbeats 8000000 in
set_option maxRecDepth 100000 in
theorem envJoins_any {A A2 : Option Addr} {n c n2 c2 L : Nat} {xs ys : List Bn} {w : World} (h : ListI L w (.slice A n c) xs) (h2 : ListI L w (.slice A2 n2 c2) ys) (hL1 : 1 ≤ L) (hL : L ≤ 268435456) (hn : n ≤ 1048576) (hn2 : n2 ≤ 1048576) :
    Calls Tryz.prog 4 #[.slice A n c, .slice A2 n2 c2] w (Keeps (.bool true) w) := by
  have H := Lib.hid h
  have H2 := Lib.hid h2
  have HN1 : Hid (n = xs.length) := h.len.1
  have HN2 : Hid (n2 = ys.length) := h2.len.1
  clear h h2
  go_enter Tryz.func4, Tryz.ntmps4
  go_wp2_with fail
  refine (awake26_any _).mono ?_
  rintro e w1 ⟨rfl, hb1⟩
  go_wp2_with fail
  refine (copyList_any (H.out.below hb1) hL (by omega)).mono ?_
  rintro e wa ⟨A3, c3, rfl, la, hba⟩
  go_wp2_with fail
  refine (copyList_any ((H2.out.below hb1).below hba) hL (by omega)).mono ?_
  rintro e wb ⟨A4, c4, rfl, lb, hbb⟩
  go_wp2_with fail
  refine (eover_any (la.below hbb) lb hL1 hL (by omega) (by omega)).mono ?_
  rintro e wc ⟨hbc, A5, m5, c5, rfl, lc⟩
  go_wp2_with fail
  refine (told_any26 ((((H.out.below hb1).below hba).below hbb).below hbc) (by omega)).mono ?_
  rintro e wd ⟨A6, c6, rfl, ld, hbd⟩
  go_wp2_with fail
  refine (told_any26 (((((H2.out.below hb1).below hba).below hbb).below hbc).below hbd) (by omega)).mono ?_
  rintro e we ⟨A7, c7, rfl, le, hbe⟩
  go_wp2_with fail
  refine (rover_any (ld.below hbe) le hL1 hL (by omega) (by omega)).mono ?_
  rintro e wf ⟨hbf, A8, m8, c8, rfl, lf⟩
  have hm5 : m5 ≤ 1073741824 := by have h1 := lc.len; have h2 := ovq_len xs ys; have := HN1.out; have := HN2.out; omega
  generalize hzo : ovc xs ys = zo
  have HZO := Lib.hid hzo
  clear hzo
  go_wp2_with fail
  refine (like_yes (((lc.c.below hbd).below hbe).below hbf) lf.c (by omega) hm5).mono ?_
  rintro e w2 ⟨rfl, hb2⟩
  go_wp2_with fail
  refine (copyList_any ((((((((H.out.below hb1).below hba).below hbb).below hbc).below hbd).below hbe).below hbf).below hb2) hL (by omega)).mono ?_
  rintro e wg ⟨A9, c9, rfl, lg, hbg⟩
  go_wp2_with fail
  refine (copyList_any (((((((((H2.out.below hb1).below hba).below hbb).below hbc).below hbd).below hbe).below hbf).below hb2).below hbg) hL (by omega)).mono ?_
  rintro e wh ⟨A10, c10, rfl, lh, hbh⟩
  go_wp2_with fail
  refine (edif_any (lg.below hbh) lh hL1 hL (by omega) (by omega)).mono ?_
  rintro e wi ⟨hbi, A11, m11, c11, rfl, ri, hm11⟩
  go_wp2_with fail
  refine (told_any26 (((((((((((H.out.below hb1).below hba).below hbb).below hbc).below hbd).below hbe).below hbf).below hb2).below hbg).below hbh).below hbi) (by omega)).mono ?_
  rintro e wj ⟨A12, c12, rfl, lj, hbj⟩
  go_wp2_with fail
  refine (told_any26 ((((((((((((H2.out.below hb1).below hba).below hbb).below hbc).below hbd).below hbe).below hbf).below hb2).below hbg).below hbh).below hbi).below hbj) (by omega)).mono ?_
  rintro e wk ⟨A13, c13, rfl, lk, hbk⟩
  go_wp2_with fail
  refine (rdif_any (lj.below hbk) lk hL1 hL (by omega) (by omega)).mono ?_
  rintro e wl ⟨hbl, A14, m14, c14, rfl, rl, hm14⟩
  generalize hzd : dfc xs ys = zd
  have HZD := Lib.hid hzd
  clear hzd
  go_wp2_with fail
  refine (sameTexts_yes (((ri.below hbj).below hbk).below hbl) rl (by omega)).mono ?_
  rintro e w3 ⟨rfl, hb3⟩
  go_wp2_with fail
  refine (copyList_any (((((((((((((((H.out.below hb1).below hba).below hbb).below hbc).below hbd).below hbe).below hbf).below hb2).below hbg).below hbh).below hbi).below hbj).below hbk).below hbl).below hb3) hL (by omega)).mono ?_
  rintro e wm ⟨A15, c15, rfl, lm, hbm⟩
  go_wp2_with fail
  refine (copyList_any ((((((((((((((((H2.out.below hb1).below hba).below hbb).below hbc).below hbd).below hbe).below hbf).below hb2).below hbg).below hbh).below hbi).below hbj).below hbk).below hbl).below hb3).below hbm) hL (by omega)).mono ?_
  rintro e wn ⟨A16, c16, rfl, ln, hbn⟩
  have CS1 := Lib.hid (esame_any (lm.below hbn) ln hL1 hL (by omega) (by omega))
  generalize hss : smb xs ys = ss at CS1
  have HSS := Lib.hid hss
  clear hss
  go_wp2_with fail
  refine (CS1.out).mono ?_
  rintro e w4 ⟨rfl, hb4⟩
  go_wp2_with fail
  refine (told_any26 ((((((((((((((((((H.out.below hb1).below hba).below hbb).below hbc).below hbd).below hbe).below hbf).below hb2).below hbg).below hbh).below hbi).below hbj).below hbk).below hbl).below hb3).below hbm).below hbn).below hb4) (by omega)).mono ?_
  rintro e wo ⟨A17, c17, rfl, lo, hbo⟩
  go_wp2_with fail
  refine (told_any26 (((((((((((((((((((H2.out.below hb1).below hba).below hbb).below hbc).below hbd).below hbe).below hbf).below hb2).below hbg).below hbh).below hbi).below hbj).below hbk).below hbl).below hb3).below hbm).below hbn).below hb4).below hbo) (by omega)).mono ?_
  rintro e wp ⟨A18, c18, rfl, lp, hbp⟩
  have CS2 := Lib.hid (rsame_any (lo.below hbp) lp hL1 hL (by omega) (by omega))
  rw [HSS.out] at CS2
  go_wp2_with fail
  refine (CS2.out).mono ?_
  rintro e w5 ⟨rfl, hb5⟩
  have HEND : Hid (Below w.heap.size w w5) := (bt (bt (bt (bt (bt (bt (bt (bt (bt (bt (bt (bt (bt (bt (bt (bt (bt (bt (bt (bt hb1 hba) hbb) hbc) hbd) hbe) hbf) hb2) hbg) hbh) hbi) hbj) hbk) hbl) hb3) hbm) hbn) hb4) hbo) hbp) hb5)
  go_wp2
  go_ret
  exact ⟨by simp, HEND.out⟩
end Go.Proofs.YtphofjinncbaaaaGreat
