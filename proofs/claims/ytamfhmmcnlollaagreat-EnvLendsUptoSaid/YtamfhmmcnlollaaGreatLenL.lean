/-
  EnvLends: nothing that is handed in is changed; nothing that is answered shares memory with it or with another answer.
-/
import Derived.Test.YtamfhmmcnlollaaGreatLenX
namespace Go.Proofs.YtamfhmmcnlollaaGreat
open Go.RowKit
set_option linter.unusedVariables false
set_option linter.unusedSimpArgs false

set_option maxHeartbeats 16000000 in
set_option maxRecDepth 100000 in
theorem envLends_any {A A2 : Option Addr} {n c n2 c2 L : Nat} {bs : List Bn} {t : ByteArray} {rs : List Cf} {w : World} (h : ListI L w (.slice A n c) bs) (h2 : PolyI L w (.slice A2 n2 c2) rs) (hts : t.size ≤ maxLen) (hL1 : 1 ≤ L) (hL : L ≤ 268435456) (hn : n ≤ 1048576) (hn2 : n2 ≤ 1048577) :
    Calls Tryz.prog 4 #[.slice A n c, .string t, .slice A2 n2 c2] w (Keeps (.bool true) w) := by
  obtain ⟨xs, hx, rfl⟩ := h.x
  obtain ⟨ls, hp, rfl⟩ := h2.x
  have H := Lib.hid hx
  have H2 := Lib.hid hp
  have HTS := Lib.hid hts
  have HNQ : Hid (n = xs.length) := hx.len.1
  obtain ⟨z, hz⟩ : ∃ z, z = ofz (xs.map bnx) := ⟨_, rfl⟩
  obtain ⟨qs, hq⟩ : ∃ qs, qs = ofl (xs.map bnx) := ⟨_, rfl⟩
  have HOF : Hid (∀ {w : World} {A : Option Addr} {n c : Nat}, ListI L w (.slice A n c) (xs.map bnx) → n ≤ 1048576 → Calls Tryz.prog 18 #[.slice A n c] w (fun e w' => Below w.heap.size w w' ∧ ∃ A m c, e = .returned (.tuple #[.slice A m c, .int .i64 z]) ∧ ListO w.heap.size L w' A m c qs)) := fun h hn => by rw [hz, hq]; exact eof_u h hL1 hL (by omega)
  have HRF : Hid (∀ {w : World} {A : Option Addr} {n c : Nat}, ListI L w (.slice A n c) (xs.map bnx) → n ≤ 1048576 → Calls Tryz.prog 19 #[.slice A n c] w (fun e w' => Below w.heap.size w w' ∧ ∃ A m c, e = .returned (.tuple #[.slice A m c, .int .i64 z]) ∧ ListR w.heap.size L w' A m c qs)) := fun h hn => by rw [hz, hq]; exact rof_u h hL1 hL hn
  have HC : Hid (z ≠ 0 → qs = []) := fun hne => by rw [hq]; exact ofl_no (by rw [← hz]; exact hne)
  have HG : Hid (z = 0 → (∀ q ∈ qs, OkQ q) ∧ Rises qs ∧ qs.length ≤ 64) := fun he => by
    have h0 := ofz_zero (hz.symm.trans he)
    have e1 : qs = ofq [] (xs.map bnx) := hq.trans (ofl_ok (hz.symm.trans he))
    rw [e1]
    exact ⟨ofq_all _ [] (by simp) (fun b hb => ⟨b, ofc_zero h0.1 b hb, rfl⟩), ofq_rises _ [] (fun i j _ h => by simp at h), h0.2⟩
  have HL64 : Hid (qs.length ≤ 64) := by
    by_cases he : z = 0
    · exact (HG.out he).2.2
    · show _ ≤ 64
      rw [HC.out he]; simp
  clear h h2 hx hp hts hz hq
  go_enter Tryz.func4, Tryz.ntmps4
  go_wp2_with fail
  refine (awake26_any _).mono ?_
  rintro e w1 ⟨rfl, hb1⟩
  go_wp2_with fail
  have hs1 : w.heap.size ≤ w1.heap.size := hb1.size
  refine (copyListX_any (H.out.below hb1) hL (by omega)).mono ?_
  rintro e wa ⟨A1, c1, rfl, la, hba⟩
  have hs2 := hba.size
  go_wp2_with fail
  refine (HOF.out la.rd.i (by omega)).mono ?_
  rintro e wb ⟨hbb, A3, m, c3, rfl, lo⟩
  have hs3 := hbb.size
  have hml : m = qs.length := lo.len
  have hm : m ≤ 64 := by have := HL64.out; omega
  clear hml
  go_wp2_with fail
  refine (told_any26 (((H.out.i.below hb1).below hba).below hbb) (by omega)).mono ?_
  rintro e wc ⟨A4, c4, rfl, lc, hbc⟩
  have hs4 := hbc.size
  go_wp2_with fail
  refine (HRF.out lc (by omega)).mono ?_
  rintro e wd ⟨hbd, A5, m5, c5, rfl, lr⟩
  have hm5 : m5 ≤ 64 := by have h1 := lr.len; have := HL64.out; omega
  have hs5 := hbd.size
  go_wp2_with fail
  refine (toldc_any (((show ListZ (In wa.heap.size wb.heap.size) wa.heap.size L wb A3 m c3 qs from lo.inn).below hbc).below hbd).c (by omega)).mono ?_
  rintro e w_k1 ⟨A_k1, c_k1, rfl, t_k1, hb_k1⟩
  go_wp2_with fail
  refine (like26_yes t_k1 ((show ListV (In wc.heap.size wd.heap.size) wc.heap.size L wd A5 m5 c5 qs from lr.v).below hb_k1).r.c (by omega) (by omega)).mono ?_
  rintro e w2 ⟨rfl, hb2⟩
  have HB : Hid (Below w.heap.size w w2) := (bt (bt (bt (bt (bt (bt hb1 hba) hbb) hbc) hbd) hb_k1) hb2)
  have LX := Lib.hid (((((((H.out.below hb1).below hba).below hbb).below hbc).below hbd).below hb_k1).below hb2)
  have LA := Lib.hid (((((la.below hbb).below hbc).below hbd).below hb_k1).below hb2)
  have SH := Lib.hid ((((((show ShL (In w1.heap.size wa.heap.size) wa (A1, n, c1) from la.sh).below hbb).below hbc).below hbd).below hb_k1).below hb2)
  have LO := Lib.hid (((((show ListZ (In wa.heap.size wb.heap.size) wa.heap.size L wb A3 m c3 qs from lo.inn).below hbc).below hbd).below hb_k1).below hb2)
  have LR := Lib.hid (((show ListV (In wc.heap.size wd.heap.size) wc.heap.size L wd A5 m5 c5 qs from lr.v).below hb_k1).below hb2)
  have SZ1 : Hid (w.heap.size ≤ w1.heap.size ∧ w1.heap.size ≤ wa.heap.size ∧ wa.heap.size ≤ wb.heap.size ∧ wb.heap.size ≤ wc.heap.size ∧ wc.heap.size ≤ wd.heap.size ∧ wd.heap.size ≤ w2.heap.size) := ⟨hs1, hs2, hs3, hs4, hs5, by have := hb_k1.size; have := hb2.size; omega⟩
  clear hs1 hs2 hs3 hs4 hs5
  go_wp2_with fail
  go_loopw [50] (fun kv wr => ∃ i : Nat, Hid (Below w2.heap.size w2 wr) ∧ i ≤ n ∧ kv = .int .i64 (i : Int)) (fun kv _ => n - (intOf kv).toNat)
  case atStart => exact ⟨0, Below.refl _ _, Nat.zero_le _, rfl⟩
  case round =>
    obtain ⟨i, hI, hi, rfl⟩ := hrel
    obtain ⟨wq, rfl⟩ : ∃ wq : World, wq = wr := ⟨_, rfl⟩
    by_cases hlt : i < n
    · obtain ⟨b, off, B1, m1, d1, r, e1, hb, er, P0, P1, PX, hz1, hl1⟩ := (LX.out.below hI.out).at (i := i) (by have := HNQ.out; omega)
      obtain ⟨b', off', B2, m2, d2, r', e2, hb', er', Q0, Q1, QX, hz2, hl2⟩ := ((LA.out.rd).below hI.out).at (i := i) (by have := HNQ.out; omega)
      have er2 := er.symm.trans er'
      injection er2 with er2
      subst er2
      subst e1 e2
      obtain rfl : m1 = m2 := by rw [QX.len, PX.len]
      have HPX := Lib.hid PX
      have HQX := Lib.hid QX
      clear er er' PX QX hz1 hz2
      have i1 : (0 : Int) ≤ (i : Int) := by omega
      have i2 : (i : Int) < (n : Int) := by omega
      go_wp2_with fail
      have e_p0 := P0.1
      have g_p0 := At.grow P0
      have e_p1 := P1.1
      have g_p1 := At.grow P1
      have e_q0 := Q0.1
      have g_q0 := At.grow Q0
      have e_q1 := Q1.1
      have g_q1 := At.grow Q1
      refine wp_region_grow none [(true, 0), (true, 1), (true, 2), (true, 3), (true, 4), (true, 5), (true, 6), (true, 7), (true, 8), (true, 9), (true, 10), (true, 11), (true, 12), (true, 13), (true, 14), (true, 15), (true, 16), (true, 17), (true, 18), (true, 19), (true, 20), (true, 21), (true, 22), (true, 23), (true, 24), (true, 25)] (by kernel_rfl) (by kernel_rfl) ?_
      repeat (refine ord_pas (by rfl) (fun K hK => ?_); go_simp; refine hK _ _ (fun w' hw' => (by first | (go_simp; done) | (go_simp; intro hh; cases hh))) ?_; clear hK K)
      repeat (refine ord_pas (by rfl) (fun K hK => ?_); go_simp; refine hK _ _ (fun w' hw' => (by first | (go_simp; done) | (go_simp; intro hh; cases hh))) ?_; clear hK K)
      refine ord_nil ?_
      clear g_p0 e_p0 g_p1 e_p1 g_q0 e_q0 g_q1 e_q1
      have y1 := (P1.below (Below.refl _ _).drew).1
      have PI1 := Lib.hid (P1.below (Below.refl _ _).drew)
      have QI1 := Lib.hid (Q1.below (Below.refl _ _).drew)
      have HI1 := Lib.hid (bt hI.out (below_drewN _ 1))
      have HPI := Lib.hid (HPX.out.below (below_drewN _ 1))
      have HQI := Lib.hid (HQX.out.below (below_drewN _ 1))
      clear P0 P1 Q0 Q1 HPX HQX
      go_wp2_with fail
      clear y1
      go_loopw [85] (fun kv wr => ∃ j : Nat, Hid (Below (World.drew wq).heap.size (World.drew wq) wr) ∧ j ≤ m1 ∧ kv = .int .i64 (j : Int)) (fun kv _ => m1 - (intOf kv).toNat)
      case atStart => exact ⟨0, Below.refl _ _, Nat.zero_le _, rfl⟩
      case round =>
        obtain ⟨j, hJ, hj, rfl⟩ := hrel
        by_cases hlt2 : j < m1
        · obtain ⟨c, o, s, A6, n6, c6, A7, n7, c7, r6, e1, hb1, er, hs6, x0, x1, x2, u1, u2⟩ := (HPI.out.below hJ.out).at (i := j) (by have := HPI.out.len; omega)
          obtain ⟨c', o', s', A8, n8, c8, A9, n9, c9, r8, e2, hb2, er', hs8, y0, y1, y2, v1, v2⟩ := (HQI.out.below hJ.out).at (i := j) (by have := HQI.out.len; omega)
          have er2 := er.symm.trans er'
          injection er2 with er2
          subst er2
          subst e1 e2
          obtain rfl := hs6.out
          obtain rfl := hs8.out
          obtain rfl : n6 = n8 := by rw [← u1.1.len, ← v1.1.len]
          obtain rfl : n7 = n9 := by rw [← u2.1.len, ← v2.1.len]
          have l6 : n6 ≤ 1073741824 := by have := u1.2.2; omega
          have l7 : n7 ≤ 1073741824 := by have := u2.2.2; omega
          have HU1 := Lib.hid u1.1
          have HU2 := Lib.hid u2.1
          have HV1 := Lib.hid v1.1
          have HV2 := Lib.hid v2.1
          have X0 : At wr ⟨c, o + j * 3, none⟩ (.bool r6.1) := ⟨x0, hb1⟩
          have X1 : At wr ⟨c, o + j * 3 + 1, none⟩ (.slice A6 n6 c6) := ⟨x1, hb1⟩
          have X2 : At wr ⟨c, o + j * 3 + 2, none⟩ (.slice A7 n7 c7) := ⟨x2, hb1⟩
          have Y0 : At wr ⟨c', o' + j * 3, none⟩ (.bool r6.1) := ⟨y0, hb2⟩
          have Y1 : At wr ⟨c', o' + j * 3 + 1, none⟩ (.slice A8 n6 c8) := ⟨y1, hb2⟩
          have Y2 : At wr ⟨c', o' + j * 3 + 2, none⟩ (.slice A9 n7 c9) := ⟨y2, hb2⟩
          clear x0 x1 x2 y0 y1 y2 u1 u2 v1 v2 er er' hs6 hs8
          have j1 : (0 : Int) ≤ (j : Int) := by omega
          have j2 : (j : Int) < (m1 : Int) := by omega
          go_wp2_with fail
          have e_p1 := (PI1.out.below hJ.out).1
          have g_p1 := At.grow (PI1.out.below hJ.out)
          have e_q1 := (QI1.out.below hJ.out).1
          have g_q1 := At.grow (QI1.out.below hJ.out)
          have e_a0 := X0.1
          have g_a0 := At.grow X0
          have e_a1 := X1.1
          have g_a1 := At.grow X1
          have e_a2 := X2.1
          have g_a2 := At.grow X2
          have e_b0 := Y0.1
          have g_b0 := At.grow Y0
          have e_b1 := Y1.1
          have g_b1 := At.grow Y1
          have e_b2 := Y2.1
          have g_b2 := At.grow Y2
          refine wp_region_grow none [(true, 0), (true, 1), (true, 2), (true, 3), (true, 4), (true, 5), (true, 6), (true, 7), (true, 8), (true, 9), (true, 10), (true, 11), (true, 12), (true, 13), (true, 14), (true, 15), (false, 16), (true, 17)] (by kernel_rfl) (by kernel_rfl) ?_
          repeat (refine ord_pas (by rfl) (fun K hK => ?_); go_simp; refine hK _ _ (fun w' hw' => (by first | (go_simp; done) | (go_simp; intro hh; cases hh))) ?_; clear hK K)
          clear X0 X1 X2 Y0 Y1 Y2
          (refine ord_call (by rfl) (fun K hK => ?_); go_simp; refine hK _ _ ?_; clear hK K)
          refine (sameRaw_any (s := r6.1) (HV1.out.below (Below.refl _ _).drew) (HV2.out.below (Below.refl _ _).drew) (HU1.out.below (Below.refl _ _).drew) (HU2.out.below (Below.refl _ _).drew) l6 l7).mono ?_
          rintro e w3 ⟨rfl, hb3⟩
          refine ⟨_, rfl, Grow.of_below hb3, ?_⟩
          (refine ord_norm (fun K hK => ?_); go_simp; refine hK _ ?_; clear hK K)
          repeat (refine ord_pas (by rfl) (fun K hK => ?_); go_simp; refine hK _ _ (fun w' hw' => (by first | (go_simp; done) | (go_simp; intro hh; cases hh))) ?_; clear hK K)
          refine ord_nil ?_
          clear g_p1 e_p1 g_q1 e_q1 g_a0 e_a0 g_a1 e_a1 g_a2 e_a2 g_b0 e_b0 g_b1 e_b1 g_b2 e_b2
          have HN := Lib.hid (bt hJ.out (bt (Below.refl _ _).drew hb3))
          clear hJ
          go_wp2
          go_roundw
          case rel => exact ⟨j + 1, HN, by omega, by go_num⟩
          case measure => simp [intOf]; omega
        · obtain rfl : m1 = j := by omega
          have HN := Lib.hid (bt HI1.out hJ.out)
          clear hI
          go_wp2
          go_roundw
          case rel => exact ⟨i + 1, HN, by omega, by go_num⟩
          case measure => simp [intOf]; omega
    · obtain rfl : n = i := by omega
      obtain ⟨wy, rfl⟩ : ∃ wy : World, wy = wq := ⟨_, rfl⟩
      have hs6 := hI.out.size
      go_wp2_with fail
      refine (spoil_any (SH.out.below hI.out) (by omega)).mono ?_
      rintro e ws ⟨rfl, hxs⟩
      have hs7 := hxs.size
      have HB1 : Hid (Below w.heap.size w ws) := (bt HB.out hI.out).trans (hxs.below (fun b hb => by have := SZ1.out; unfold In at hb; omega) (bt HB.out hI.out).size)
      have LO1 := Lib.hid ((LO.out.below hI.out).exd hxs (In.dj (by have := SZ1.out; omega)))
      have LR1 := Lib.hid ((LR.out.below hI.out).exd hxs (In.dj (by have := SZ1.out; omega)))
      have SZ2 : Hid (w.heap.size ≤ w1.heap.size ∧ w1.heap.size ≤ wa.heap.size ∧ wa.heap.size ≤ wb.heap.size ∧ wb.heap.size ≤ wc.heap.size ∧ wc.heap.size ≤ wd.heap.size ∧ wd.heap.size ≤ ws.heap.size) := by have := SZ1.out; exact ⟨by omega, by omega, by omega, by omega, by omega, by omega⟩
      clear hs6 hs7 hxs LX LA SH LO LR SZ1 HB hI HOF HRF
      by_cases hz0 : z = 0
      · subst hz0
        have HG0 := Lib.hid (HG.out rfl)
        have HS := Lib.hid (self_laws HG0.out.1 HG0.out.2.1 HG0.out.2.2)
        clear HG HC
        go_wp2_with fail
        refine (toldc_any LO1.out.c (by omega)).mono ?_
        rintro e w_k2 ⟨A_k2, c_k2, rfl, t_k2, hb_k2⟩
        go_wp2_with fail
        refine (like26_yes t_k2 (LR1.out.below hb_k2).r.c (by omega) (by omega)).mono ?_
        rintro e w4 ⟨rfl, hb4⟩
        go_wp2_with fail
        have hs6 : ws.heap.size ≤ w4.heap.size := (bt hb_k2 hb4).size
        refine (copyPolyX_any (((H2.out.below HB1.out).below hb_k2).below hb4) hL (by omega)).mono ?_
        rintro e we ⟨v, rfl, hpo, hbe⟩
        obtain ⟨B5, n9, d9, hs0, rfl, k1, k2, k3⟩ := id hpo
        have hn9 : n9 ≤ 1073741824 := by rw [k2]; have := H2.out.len; omega
        clear k1 k2 k3
        have hs7 := hbe.size
        go_wp2_with fail
        refine (eput_any (((LO1.out.below hb_k2).below hb4).below hbe).inp hpo.rd.i HTS.out hL1 hL (by omega) hn9).mono ?_
        rintro e wf ⟨hbf, A6, m6, c6, rfl, lf⟩
        have hs8 := hbf.size
        go_wp2_with fail
        refine (rput_any ((((LR1.out.below hb_k2).below hb4).below hbe).below hbf).r.inp (((((H2.out.i.below HB1.out).below hb_k2).below hb4).below hbe).below hbf) HTS.out hL1 hL (by omega) (by omega)).mono ?_
        rintro e wg ⟨hbg, A7, m7, c7, rfl, lg⟩
        have hs9 := hbg.size
        have hm6 : m6 ≤ 1048576 := by have h1 := lf.len; have h2 := putl_len (qs.map bqo) t (ls.map cfx); rw [List.length_map] at h2; have := HL64.out; omega
        generalize putc (qs.map bqo) t (ls.map cfx) = zp
        go_wp2_with fail
        refine (eover_any (((((LO1.out.below hb_k2).below hb4).below hbe).below hbf).below hbg).inp (((((LO1.out.below hb_k2).below hb4).below hbe).below hbf).below hbg).inp hL1 hL (by omega) (by omega)).mono ?_
        rintro e wh ⟨hbh, A8, m8, c8, rfl, lh⟩
        rw [HS.out.1.2] at lh
        rw [HS.out.1.1]
        have hm8 : m8 ≤ 64 := by have h1 := lh.len; have := HL64.out; omega
        have hs10 := hbh.size
        go_wp2_with fail
        refine (toldc_any ((((((LO1.out.below hb_k2).below hb4).below hbe).below hbf).below hbg).below hbh).c (by omega)).mono ?_
        rintro e w_k3 ⟨A_k3, c_k3, rfl, t_k3, hb_k3⟩
        go_wp2_with fail
        refine (like26_yes t_k3 (((((((LR1.out.below hb_k2).below hb4).below hbe).below hbf).below hbg).below hbh).below hb_k3).r.c (by omega) (by omega)).mono ?_
        rintro e w5 ⟨rfl, hb5⟩
        go_wp2_with fail
        have hs11 : wh.heap.size ≤ w5.heap.size := (bt hb_k3 hb5).size
        refine (eget_any ((((((((LO1.out.below hb_k2).below hb4).below hbe).below hbf).below hbg).below hbh).below hb_k3).below hb5).inp HTS.out hL1 hL (by omega)).mono ?_
        rintro e wi ⟨A9, m9, c9, rfl, pg, hm9, hbi⟩
        have hs12 := hbi.size
        go_wp2_with fail
        refine (rget_any (((((((((LR1.out.below hb_k2).below hb4).below hbe).below hbf).below hbg).below hbh).below hb_k3).below hb5).below hbi).r.inp HTS.out hL1 hL (by omega)).mono ?_
        rintro e wj ⟨A10, m10, c10, rfl, pr, hm10, hbj⟩
        have hs13 := hbj.size
        generalize getc (qs.map bqo) t = zg
        have HB := Lib.hid (bt HB1.out (bt (bt (bt (bt (bt (bt (bt (bt (bt hb_k2 hb4) hbe) hbf) hbg) hbh) hb_k3) hb5) hbi) hbj))
        have LO := Lib.hid ((((((((((LO1.out.below hb_k2).below hb4).below hbe).below hbf).below hbg).below hbh).below hb_k3).below hb5).below hbi).below hbj)
        have LR := Lib.hid ((((((((((LR1.out.below hb_k2).below hb4).below hbe).below hbf).below hbg).below hbh).below hb_k3).below hb5).below hbi).below hbj)
        have LF := Lib.hid (((((((show ListZ (In we.heap.size wf.heap.size) we.heap.size L wf A6 m6 c6 (putl (qs.map bqo) t (ls.map cfx)) from lf.inn).below hbg).below hbh).below hb_k3).below hb5).below hbi).below hbj)
        have LG := Lib.hid ((((((show ListV (In wf.heap.size wg.heap.size) wf.heap.size L wg A7 m7 c7 (putl (qs.map bqo) t (ls.map cfx)) from lg.v).below hbh).below hb_k3).below hb5).below hbi).below hbj)
        have LH := Lib.hid (((((show ListZ (In wg.heap.size wh.heap.size) wg.heap.size L wh A8 m8 c8 qs from lh.inn).below hb_k3).below hb5).below hbi).below hbj)
        have PG := Lib.hid ((show PolyS (In w5.heap.size wi.heap.size) w5.heap.size L wi (.slice A9 m9 c9) (getq (qs.map bqo) t) from pg.inn).below hbj)
        have PR := Lib.hid (show PolyS (In wi.heap.size wj.heap.size) wi.heap.size L wj (.slice A10 m10 c10) (getq (qs.map bqo) t) from pr.inn)
        have SP := Lib.hid ((((((((show ShP (In w4.heap.size we.heap.size) we (B5, n9, d9) from hpo.sh).below hbf).below hbg).below hbh).below hb_k3).below hb5).below hbi).below hbj)
        have SZ : Hid (w.heap.size ≤ w1.heap.size ∧ w1.heap.size ≤ wa.heap.size ∧ wa.heap.size ≤ wb.heap.size ∧ wb.heap.size ≤ wc.heap.size ∧ wc.heap.size ≤ wd.heap.size ∧ wd.heap.size ≤ w4.heap.size ∧ w4.heap.size ≤ we.heap.size ∧ we.heap.size ≤ wf.heap.size ∧ wf.heap.size ≤ wg.heap.size ∧ wg.heap.size ≤ wh.heap.size ∧ wh.heap.size ≤ w5.heap.size ∧ w5.heap.size ≤ wi.heap.size ∧ wi.heap.size ≤ wj.heap.size) := by have := SZ2.out; refine ⟨?_, ?_, ?_, ?_, ?_, ?_, ?_, ?_, ?_, ?_, ?_, ?_, ?_⟩ <;> omega
        have HN : Hid (wj.heap.size ≤ wj.heap.size) := Nat.le_refl _
        clear hs6 hs7 hs8 hs9 hs10 hs11 hs12 hs13 SZ2 LO1 LR1 HB1
        go_wp2_with fail
        refine (grow_any LO.out hL (by omega) (by have := SZ.out; have := HN.out; omega)).mono ?_
        rintro e g1 ⟨rfl, lz1, hx1⟩
        replace LO := Lib.hid lz1
        replace LH := Lib.hid (LH.out.exd hx1 (In.dj (by have := SZ.out; omega)))
        replace SP := Lib.hid (SP.out.exd hx1 (In.dj (by have := SZ.out; omega)))
        replace LF := Lib.hid (LF.out.exd hx1 (In.dj (by have := SZ.out; omega)))
        replace LG := Lib.hid (LG.out.exd hx1 (In.dj (by have := SZ.out; omega)))
        replace LR := Lib.hid (LR.out.exd hx1 (In.dj (by have := SZ.out; omega)))
        replace PG := Lib.hid (PG.out.exd hx1 (In.dj (by have := SZ.out; omega)))
        replace PR := Lib.hid (PR.out.exd hx1 (In.dj (by have := SZ.out; omega)))
        replace HB := Lib.hid (HB.out.trans (hx1.below (fun b hb => by have := SZ.out; unfold In at hb; omega) HB.out.size))
        replace HN := Lib.hid (Nat.le_trans HN.out hx1.size)
        clear hx1 lz1
        go_wp2_with fail
        refine (grow_any LF.out hL (by omega) (by have := SZ.out; have := HN.out; omega)).mono ?_
        rintro e g2 ⟨rfl, lz2, hx2⟩
        replace LF := Lib.hid lz2
        replace LO := Lib.hid (LO.out.exd hx2 (In.dj (by have := SZ.out; omega)))
        replace LG := Lib.hid (LG.out.exd hx2 (In.dj (by have := SZ.out; omega)))
        replace LH := Lib.hid (LH.out.exd hx2 (In.dj (by have := SZ.out; omega)))
        replace SP := Lib.hid (SP.out.exd hx2 (In.dj (by have := SZ.out; omega)))
        replace LR := Lib.hid (LR.out.exd hx2 (In.dj (by have := SZ.out; omega)))
        replace PG := Lib.hid (PG.out.exd hx2 (In.dj (by have := SZ.out; omega)))
        replace PR := Lib.hid (PR.out.exd hx2 (In.dj (by have := SZ.out; omega)))
        replace HB := Lib.hid (HB.out.trans (hx2.below (fun b hb => by have := SZ.out; unfold In at hb; omega) HB.out.size))
        replace HN := Lib.hid (Nat.le_trans HN.out hx2.size)
        clear hx2 lz2
        go_wp2_with fail
        refine (grow_any LH.out hL (by omega) (by have := SZ.out; have := HN.out; omega)).mono ?_
        rintro e g3 ⟨rfl, lz3, hx3⟩
        replace LH := Lib.hid lz3
        replace LO := Lib.hid (LO.out.exd hx3 (In.dj (by have := SZ.out; omega)))
        replace SP := Lib.hid (SP.out.exd hx3 (In.dj (by have := SZ.out; omega)))
        replace LF := Lib.hid (LF.out.exd hx3 (In.dj (by have := SZ.out; omega)))
        replace LG := Lib.hid (LG.out.exd hx3 (In.dj (by have := SZ.out; omega)))
        replace LR := Lib.hid (LR.out.exd hx3 (In.dj (by have := SZ.out; omega)))
        replace PG := Lib.hid (PG.out.exd hx3 (In.dj (by have := SZ.out; omega)))
        replace PR := Lib.hid (PR.out.exd hx3 (In.dj (by have := SZ.out; omega)))
        replace HB := Lib.hid (HB.out.trans (hx3.below (fun b hb => by have := SZ.out; unfold In at hb; omega) HB.out.size))
        replace HN := Lib.hid (Nat.le_trans HN.out hx3.size)
        clear hx3 lz3
        go_wp2_with fail
        refine (spoil_any LO.out.sh (by omega)).mono ?_
        rintro e g4 ⟨rfl, hx4⟩
        replace LH := Lib.hid (LH.out.exd hx4 (In.dj (by have := SZ.out; omega)))
        replace SP := Lib.hid (SP.out.exd hx4 (In.dj (by have := SZ.out; omega)))
        replace LF := Lib.hid (LF.out.exd hx4 (In.dj (by have := SZ.out; omega)))
        replace LG := Lib.hid (LG.out.exd hx4 (In.dj (by have := SZ.out; omega)))
        replace LR := Lib.hid (LR.out.exd hx4 (In.dj (by have := SZ.out; omega)))
        replace PG := Lib.hid (PG.out.exd hx4 (In.dj (by have := SZ.out; omega)))
        replace PR := Lib.hid (PR.out.exd hx4 (In.dj (by have := SZ.out; omega)))
        replace HB := Lib.hid (HB.out.trans (hx4.below (fun b hb => by have := SZ.out; unfold In at hb; omega) HB.out.size))
        replace HN := Lib.hid (Nat.le_trans HN.out hx4.size)
        clear hx4 LO
        go_wp2_with fail
        refine (spoilPoly_any SP.out hn9).mono ?_
        rintro e g5 ⟨rfl, hsp5⟩
        have hx5 := hsp5.ex
        replace LH := Lib.hid (LH.out.exd hx5 (In.dj (by have := SZ.out; omega)))
        replace LF := Lib.hid (LF.out.exd hx5 (In.dj (by have := SZ.out; omega)))
        replace LG := Lib.hid (LG.out.exd hx5 (In.dj (by have := SZ.out; omega)))
        replace LR := Lib.hid (LR.out.exd hx5 (In.dj (by have := SZ.out; omega)))
        replace PG := Lib.hid (PG.out.exd hx5 (In.dj (by have := SZ.out; omega)))
        replace PR := Lib.hid (PR.out.exd hx5 (In.dj (by have := SZ.out; omega)))
        replace HB := Lib.hid (HB.out.trans (hx5.below (fun b hb => by have := SZ.out; unfold In at hb; omega) HB.out.size))
        replace HN := Lib.hid (Nat.le_trans HN.out hx5.size)
        clear hx5 hsp5 SP
        go_wp2_with fail
        refine (toldc_any LF.out.c (by omega)).mono ?_
        rintro e w_k4 ⟨A_k4, c_k4, rfl, t_k4, hb_k4⟩
        go_wp2_with fail
        refine (like26_yes t_k4 (LG.out.below hb_k4).r.c (by omega) (by omega)).mono ?_
        rintro e w6 ⟨rfl, hb6⟩
        go_wp2_with fail
        refine (toldc_any ((LH.out.below hb_k4).below hb6).c (by omega)).mono ?_
        rintro e w_k5 ⟨A_k5, c_k5, rfl, t_k5, hb_k5⟩
        go_wp2_with fail
        refine (like26_yes t_k5 (((LR.out.below hb_k4).below hb6).below hb_k5).r.c (by omega) (by omega)).mono ?_
        rintro e w7 ⟨rfl, hb7⟩
        have HD1 : Hid (decide (getq (qs.map bqo) t = getq (qs.map bqo) t) = true) := by show _ = _; simp
        have C1 := Lib.hid (same10_any ((((PG.out.below hb_k4).below hb6).below hb_k5).below hb7).c ((((PR.out.below hb_k4).below hb6).below hb_k5).below hb7).c (by omega) (by omega))
        rw [HD1.out] at C1
        go_wp2_with fail
        refine (C1.out).mono ?_
        rintro e w8 ⟨rfl, hb8⟩
        clear C1 HD1
        replace LF := Lib.hid (((((LF.out.below hb_k4).below hb6).below hb_k5).below hb7).below hb8)
        replace LG := Lib.hid (((((LG.out.below hb_k4).below hb6).below hb_k5).below hb7).below hb8)
        replace LH := Lib.hid (((((LH.out.below hb_k4).below hb6).below hb_k5).below hb7).below hb8)
        replace PG := Lib.hid (((((PG.out.below hb_k4).below hb6).below hb_k5).below hb7).below hb8)
        replace HB := Lib.hid (bt HB.out (bt (bt (bt (bt hb_k4 hb6) hb_k5) hb7) hb8))
        replace HN := Lib.hid (Nat.le_trans HN.out (bt (bt (bt (bt hb_k4 hb6) hb_k5) hb7) hb8).size)
        clear LR PR
        go_wp2_with fail
        refine (spoil_any LH.out.sh (by omega)).mono ?_
        rintro e g6 ⟨rfl, hx6⟩
        replace PG := Lib.hid (PG.out.exd hx6 (In.dj (by have := SZ.out; omega)))
        replace LF := Lib.hid (LF.out.exd hx6 (In.dj (by have := SZ.out; omega)))
        replace LG := Lib.hid (LG.out.exd hx6 (In.dj (by have := SZ.out; omega)))
        replace HB := Lib.hid (HB.out.trans (hx6.below (fun b hb => by have := SZ.out; unfold In at hb; omega) HB.out.size))
        replace HN := Lib.hid (Nat.le_trans HN.out hx6.size)
        clear hx6 LH
        go_wp2_with fail
        refine (spoilPoly_any PG.out.sh hm9).mono ?_
        rintro e g7 ⟨rfl, hsp7⟩
        have hx7 := hsp7.ex
        replace LF := Lib.hid (LF.out.exd hx7 (In.dj (by have := SZ.out; omega)))
        replace LG := Lib.hid (LG.out.exd hx7 (In.dj (by have := SZ.out; omega)))
        replace HB := Lib.hid (HB.out.trans (hx7.below (fun b hb => by have := SZ.out; unfold In at hb; omega) HB.out.size))
        replace HN := Lib.hid (Nat.le_trans HN.out hx7.size)
        clear hx7 hsp7 PG
        go_wp2_with fail
        refine (toldc_any LF.out.c (by omega)).mono ?_
        rintro e w_k6 ⟨A_k6, c_k6, rfl, t_k6, hb_k6⟩
        go_wp2_with fail
        refine (like26_yes t_k6 (LG.out.below hb_k6).r.c (by omega) (by omega)).mono ?_
        rintro e w9 ⟨rfl, hb9⟩
        have HEND := Lib.hid (bt HB.out (bt hb_k6 hb9))
        go_wp2
        go_ret
        exact ⟨rfl, HEND.out⟩
      · have hq0 := HC.out hz0
        have hmz : m = 0 := by rw [LO1.out.len, hq0]; rfl
        subst hmz
        have d1 : (z == 0) = false := by rw [beq_eq_false_iff_ne]; exact hz0
        have d2 : (z != 0) = true := by simp [bne, d1]
        clear HC HG hq0 LO1 LR1
        go_wp2
        go_ret
        exact ⟨by simp, HB1.out⟩
end Go.Proofs.YtamfhmmcnlollaaGreat
