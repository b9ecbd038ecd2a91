/-
  SurdMoves: the walk.
-/
import Derived.Test.YtphofjinncbaaaaZpY
import Derived.Test.YtphofjinncbaaaaIntG
import Derived.Deep.CutRange
namespace Go.Proofs.Ytphofjinncbaaaa
open Go.RowKit
set_option linter.unusedVariables false
set_option linter.unusedSimpArgs false

theorem ZPI.take {L n c k : Nat} {A : Option Addr} {w : World} {rs : List Zc} (h : ZPI L w (.slice A n c) rs) (hk : k ≤ n) : ZPI L w (.slice A k c) (rs.take k) := by
  obtain ⟨_, _, _, hs, e, h1, h2, h3⟩ := h
  injection e with e1 e2 e3
  subst e1 e2 e3
  have hl : hs.length = rs.length := h3.1
  refine ⟨A, k, c, hs.take k, rfl, ⟨⟨?_, by have := h1.1.2; omega⟩, fun h0 => ?_⟩, by rw [List.length_take]; omega, ?_⟩
  · have : ∀ l : List Hz, (l.flatMap zhv).length = l.length * 2 := by
      intro l
      induction l with
      | nil => rfl
      | cons y l ih => rw [List.flatMap_cons, List.length_append, ih, zhv_len, List.length_cons]; omega
    rw [this, List.length_take]; omega
  · obtain ⟨b, off, e, hb, hc⟩ := h1.2 (by omega)
    refine ⟨b, off, e, hb, fun i hi => ?_⟩
    rw [hc i (by omega)]
    have hsplit : hs.flatMap zhv = (hs.take k).flatMap zhv ++ (hs.drop k).flatMap zhv := by rw [← List.flatMap_append, List.take_append_drop]
    have : ((hs.take k).flatMap zhv).length = k * 2 := by
      have : ∀ l : List Hz, (l.flatMap zhv).length = l.length * 2 := by
        intro l
        induction l with
        | nil => rfl
        | cons y l ih => rw [List.flatMap_cons, List.length_append, ih, zhv_len, List.length_cons]; omega
      rw [this, List.length_take]; omega
    rw [hsplit, List.getElem?_append_left (by omega)]
  · refine ⟨by simp [hl], fun i a b ha hb => ?_⟩
    rw [List.getElem?_take] at ha hb
    split at ha
    · rename_i hi
      rw [if_pos hi] at hb
      exact h3.2 i a b ha hb
    · cases ha
theorem cst_len2 {zs qs : List Int} (hq : qs.length ≤ 2) (o : List Int) (x : Nat) : (cst zs qs o x).length ≤ o.length + 1 := by
  unfold cst
  refine Nat.le_trans (ztr_le _) ?_
  rw [zaddl_len]
  have h1 := ztr_le (zmull (ztr o) (ztr qs))
  rw [zmull_len] at h1
  have h2 := ztr_le o
  have h3 := ztr_le qs
  simp only [List.length_cons, List.length_nil]
  omega
theorem cpl_len2 {zs qs : List Int} (hq : qs.length ≤ 2) (n : Nat) : ∀ pre : List Nat, pre.length = n → (cpl zs qs pre).length ≤ n := by
  induction n with
  | zero =>
    intro pre h
    rw [List.length_eq_zero_iff.1 h]
    exact Nat.zero_le _
  | succ n ih =>
    intro pre h
    rcases List.eq_nil_or_concat pre with rfl | ⟨p, x, rfl⟩
    · simp at h
    · rw [List.concat_eq_append] at h ⊢
      rw [cpl_snoc]
      have h1 := ih p (by simpa using h)
      have h2 := cst_len2 (zs := zs) hq (cpl zs qs p) x
      omega
theorem shl1_len (zs : List Int) (a : Int) : (shl1 zs a).length ≤ zs.length := by
  unfold shl1
  exact Nat.le_trans (ztr_le _) (cpl_len2 (by rw [ztr_line]; simp) _ _ (backz_length _ _))
set_option maxRecDepth 100000 in
set_option maxHeartbeats 32000000 in
theorem surdMoves_any {A A2 : Option Addr} {n c n2 c2 N : Nat} {rs rs2 : List Zc} {ha hx : Hz} {ra rx : Zc} {w : World} (h : ZPI N w (.slice A n c) rs) (h2 : ZPI N w (.slice A2 n2 c2) rs2) (h3 : RawZ N w ha ra) (h4 : RawZ N w hx rx) (hN1 : 1 ≤ N) (hN : N ≤ 1048576) (hn : n ≤ 1048576) (hn2 : n2 ≤ 1048576) :
    Calls Try.prog 4 #[.slice A n c, .slice A2 n2 c2, .agg #[.bool ha.1, shv ha.2, .bool hx.1, shv hx.2]] w (Keeps (.bool true) w) := by
  obtain ⟨sa, Aa, na, ca⟩ := ha
  obtain ⟨sx, Ax, nx, cx⟩ := hx
  simp only [shv]
  have HP := Lib.hid h
  have HQ := Lib.hid h2
  have HA := Lib.hid h3
  have HX := Lib.hid h4
  have HNN := Lib.hid (And.intro hN1 hN)
  clear h h2 h3 h4
  go_enter Try.func4, Try.ntmps4
  go_wp2_with fail
  go_cut [7, 8] from 18 to 21 (fun p q wx => ∃ b7 b8, p = .pointer (some ⟨b7, 0, none⟩) ∧ q = .pointer (some ⟨b8, 0, none⟩) ∧ At wx ⟨b7, 0, none⟩ (.bool sa) ∧ At wx ⟨b7, 1, none⟩ (.slice Aa na ca) ∧ At wx ⟨b8, 0, none⟩ (.bool sx) ∧ At wx ⟨b8, 1, none⟩ (.slice Ax nx cx) ∧ Below w.heap.size w wx)
  case first =>
    have T0 := (At.boxc (i := 0) (v := .bool sa) (t := 49) (b := w.heap.size) w #[.bool sa, .slice Aa na ca, .bool sx, .slice Ax nx cx] rfl (by simp))
    have T1 := (At.boxc (i := 1) (v := .slice Aa na ca) (t := 49) (b := w.heap.size) w #[.bool sa, .slice Aa na ca, .bool sx, .slice Ax nx cx] rfl (by simp))
    have T2 := (At.boxc (i := 2) (v := .bool sx) (t := 49) (b := w.heap.size) w #[.bool sa, .slice Aa na ca, .bool sx, .slice Ax nx cx] rfl (by simp))
    have T3 := (At.boxc (i := 3) (v := .slice Ax nx cx) (t := 49) (b := w.heap.size) w #[.bool sa, .slice Aa na ca, .bool sx, .slice Ax nx cx] rfl (by simp))
    have HB0 : Below w.heap.size w (w.alloc (.cells #[.bool sa, .slice Aa na ca, .bool sx, .slice Ax nx cx] 49)) := belowA _ _
    generalize w.alloc (.cells #[.bool sa, .slice Aa na ca, .bool sx, .slice Ax nx cx] 49) = w0 at *
    go_wp2_with fail
    have e_k0 := T0.1
    have g_k0 := At.growB T0
    have e_k1 := T1.1
    have g_k1 := At.growB T1
    have e_k2 := T2.1
    have g_k2 := At.growB T2
    have e_k3 := T3.1
    have g_k3 := At.growB T3
    refine wp_region_fltR (KB (w0).heap.size) (KB.refl _) (KB.trans _) (KB.of_grow _) [(0, 0), (0, 1), (0, 2), (0, 3), (2, 4), (2, 5), (4, 4), (4, 5), (3, 6), (3, 7)] (by kernel_rfl) (by kernel_rfl) ?_
    repeat (refine flt_pas (by rfl) (fun K hK => ?_); go_simp; refine hK _ _ (fun w' hw' => (by first | (go_simp; done) | (go_simp; intro hh; cases hh))) ?_; clear hK K)
    refine flt_alloc ((World.drew w0).heap.size) 47 #[.bool false, .slice none 0 0] (by rfl) rfl (fun w1 => (by go_simp)) (Nat.le_refl _) ?_
    refine flt_alloc ((World.drew w0).heap.size) 47 #[.bool false, .slice none 0 0] (by rfl) rfl (fun w1 => (by go_simp)) (Nat.le_refl _) ?_
    refine flt_landA (by rfl) (fun v_z7 w1 hw1 hF => ?_)
    obtain ⟨b_z7, rfl, hB_z7, hc_z7⟩ := hF
    (refine flt_norm (fun K hK => ?_); go_simp; refine hK _ ?_; clear hK K)
    refine flt_land (by rfl) (fun v_z8 w2 hw2 hF => ?_)
    obtain ⟨⟨b_z8, rfl, hB_z8, hc_z8⟩, hA_z8⟩ := hF
    (refine flt_norm (fun K hK => ?_); go_simp; refine hK _ ?_; clear hK K)
    have hc_z7 := (hw2.below.block _ (Array.getElem?_eq_some_iff.1 hc_z7).1).trans hc_z7
    have hne : b_z8 ≠ b_z7 := hA_z8 _ _ rfl rfl
    repeat (refine flt_pas (by rfl) (fun K hK => ?_); go_simp; refine hK _ _ (fun w' hw' => (by first | (go_simp; done) | (go_simp; intro hh; cases hh))) ?_; clear hK K)
    obtain ⟨cz1, cz2, cz3⟩ := cel_of hc_z7 (j := 0) rfl
    obtain ⟨cz4, cz5, cz6⟩ := cel_of hc_z7 (j := 1) rfl
    (refine flt_actX (by rfl) (fun K hK => ?_); go_simp)
    refine hK _ _ ⟨KB.set2 hB_z7, ?_⟩
    clear hK K
    (refine flt_norm (fun K hK => ?_); go_simp; refine hK _ ?_; clear hK K)
    obtain ⟨wv, hwv⟩ : ∃ wv : World, wv = ((w2).setCell ⟨b_z7, 0, none⟩ (.bool sa)).setCell ⟨b_z7, 1, none⟩ (.slice Aa na ca) := ⟨_, rfl⟩
    rw [← hwv]
    have HKX : Hid (Below ((World.drew w0)).heap.size ((World.drew w0)) (w2)) := (bt hw1.below hw2.below)
    have hyx : ∀ (i j : Nat), (⟨b_z7, i, none⟩ : Addr) ≠ ⟨b_z8, j, none⟩ := fun i j e => by injection e with e _ _; exact hne e.symm
    have hxy : ∀ (i j : Nat), (⟨b_z8, i, none⟩ : Addr) ≠ ⟨b_z7, j, none⟩ := fun i j e => by injection e with e _ _; exact hne e
    have HV : Hid (Cel wv ⟨b_z7, 0, none⟩ (.bool sa) ∧ Cel wv ⟨b_z7, 1, none⟩ (.slice Aa na ca) ∧ Cel wv ⟨b_z8, 0, none⟩ (.bool false) ∧ Cel wv ⟨b_z8, 1, none⟩ (.slice none 0 0) ∧ Below ((World.drew w0)).heap.size ((World.drew w0)) wv) := by
      rw [hwv]
      exact ⟨(Cel.put ⟨cz1, cz2, cz3⟩).set (by simp), (Cel.set ⟨cz4, cz5, cz6⟩ (by simp)).put, ((cel_of hc_z8 (j := 0) rfl).set (hyx _ _)).set (hyx _ _), ((cel_of hc_z8 (j := 1) rfl).set (hyx _ _)).set (hyx _ _),
        (HKX.out.setCell (p := ⟨b_z7, 0, none⟩) hB_z7 _).setCell (p := ⟨b_z7, 1, none⟩) hB_z7 _⟩
    clear cz1 cz2 cz3 cz4 cz5 cz6 HKX hwv
    obtain ⟨cz1, cz2, cz3⟩ := HV.out.2.2.1
    obtain ⟨cz4, cz5, cz6⟩ := HV.out.2.2.2.1
    (refine flt_actX (by rfl) (fun K hK => ?_); go_simp)
    refine hK _ _ ⟨KB.set2 hB_z8, ?_⟩
    clear hK K
    repeat (refine flt_pas (by rfl) (fun K hK => ?_); go_simp; refine hK _ _ (fun w' hw' => (by first | (go_simp; done) | (go_simp; intro hh; cases hh))) ?_; clear hK K)
    refine flt_nil ?_
    clear g_k0 e_k0 g_k1 e_k1 g_k2 e_k2 g_k3 e_k3
    go_wp2_with fail
    go_meet
    case rel =>
      obtain ⟨k1, k2, k3, k4, k5⟩ := HV.out
      exact ⟨b_z7, b_z8, rfl, rfl, Cel.at ((k1.set (hxy _ _)).set (hxy _ _)), Cel.at ((k2.set (hxy _ _)).set (hxy _ _)), Cel.at (k3.put.set (by simp)), Cel.at ((k4.set (by simp)).put),
        bt HB0 (bt (Below.refl _ _).drew ((k5.setCell (p := ⟨b_z8, 0, none⟩) hB_z8 _).setCell (p := ⟨b_z8, 1, none⟩) hB_z8 _))⟩
  case rest =>
    revert wc
    intro w1 hcut
    obtain ⟨b7, b8, rfl, rfl, t0, t1, t2, t3, hbc⟩ := hcut
    have HT := Lib.hid (And.intro t0 (And.intro t1 (And.intro t2 t3)))
    have HB1 := Lib.hid hbc
    clear t0 t1 t2 t3 hbc
    go_wp2_with fail
    have o1 := Own.lit (k := .i64) (t := 3) (B := 0) w1 [0, 0, 1] (by simp [maxLen]) (Nat.zero_le _)
    refine (poly_any (xs := [0, 0, 1]) o1.rd (by decide) (by simp)).mono ?_
    rintro e wa ⟨P1, p1, d1, rfl, hz1, hb1⟩
    have B1 : Below w1.heap.size w1 wa := bt (belowA _ _) hb1
    clear o1 hb1
    go_wp2_with fail
    refine whole_1.mono ?_
    rintro e wb ⟨A3, n3, c3, s3, rfl, hs3, o3, hb2, l3⟩
    have B2 := bt B1 hb2
    go_wp2_with fail
    have C := shiftR (K := 200) (M := 1) (L := 1) (t := s3) (hz1.below hb2).c.inp (o3.num l3) (by omega) (by rw [hz1.len]; simp) (by omega) (by omega)
    rw [zco_map, sg_of hs3.out, show (List.map (fun (x : Nat) => (x : Int)) [0, 0, 1]) = [0, 0, 1] from rfl, shl1_1] at C
    refine C.mono ?_
    rintro e wd ⟨P3, p3, d3, rfl, hz3, hb3⟩
    have B3 := bt B2 hb3
    clear C hz1 hb2 hb3 o3 hs3 l3 B1
    go_wp2_with fail
    have o1 := Own.lit (k := .i64) (t := 3) (B := 0) wd [1, 2, 1] (by simp [maxLen]) (Nat.zero_le _)
    refine (poly_any (xs := [1, 2, 1]) o1.rd (by decide) (by simp)).mono ?_
    rintro e we ⟨P4, p4, d4, rfl, hz4, hb4⟩
    have B4 := bt (bt B3 (belowA _ _)) hb4
    go_wp2_with fail
    have C := sameZ_yes ((hz3.below (belowA _ _)).below hb4).c (hz4.c : ZPC 1 we (.slice P4 p4 d4) [1, 2, 1]) (by omega) (by rw [hz3.len]; simp)
    refine C.mono ?_
    rintro e wf ⟨rfl, hb5⟩
    have B5 := bt B4 hb5
    clear C o1 hz3 hz4 hb4 hb5 B4 B3 B2
    go_upto_if 32 with fail
    have hcn : n ≤ c := HP.out.len.2
    go_cut [0] from 22 to 34 (fun v wx => ∃ m, v = .slice A m c ∧ m = min n 40 ∧ Below w1.heap.size w1 wx)
    case first =>
      by_cases hlt : 40 < n
      · have d1 : decide ((40 : Int) < (n : Int)) = true := decide_eq_true (by omega)
        have d2 : (40 : Int) ≤ (c : Int) := by omega
        go_wp2_with fail
        go_meet
        case rel => exact ⟨40, rfl, by omega, B5⟩
      · have d1 : decide ((40 : Int) < (n : Int)) = false := decide_eq_false (by omega)
        go_wp2_with fail
        go_meet
        case rel => exact ⟨n, rfl, by omega, B5⟩
    case rest =>
      clear B5
      revert wc
      intro w2 hcut
      obtain ⟨m, rfl, hm, B6⟩ := hcut
      have HM : Hid (ZPI N w (.slice A m c) (rs.take m)) := HP.out.take (by omega)
      have hm40 : m ≤ 40 := by omega
      clear hm hcn HP
      go_upto_if 37 with fail
      have hcn : n2 ≤ c2 := HQ.out.len.2
      go_cut [1] from 30 to 39 (fun v wx => ∃ m2, v = .slice A2 m2 c2 ∧ m2 = min n2 12 ∧ Below w1.heap.size w1 wx)
      case first =>
        by_cases hlt : 12 < n2
        · have d1 : decide ((12 : Int) < (n2 : Int)) = true := decide_eq_true (by omega)
          have d2 : (12 : Int) ≤ (c2 : Int) := by omega
          go_wp2_with fail
          go_meet
          case rel => exact ⟨12, rfl, by omega, B6⟩
        · have d1 : decide ((12 : Int) < (n2 : Int)) = false := decide_eq_false (by omega)
          go_wp2_with fail
          go_meet
          case rel => exact ⟨n2, rfl, by omega, B6⟩
      case rest =>
        clear B6
        revert wc
        intro w3 hcut
        obtain ⟨m2, rfl, hm2, B7⟩ := hcut
        have HM2 : Hid (ZPI N w (.slice A2 m2 c2) (rs2.take m2)) := HQ.out.take (by omega)
        have hm12 : m2 ≤ 12 := by omega
        clear hm2 hcn HQ
        generalize rs.take m = ps at *
        generalize rs2.take m2 = qs at *
        have hN2 : N ≤ 1048576 := HNN.out.2
        have hN1 : 1 ≤ N := HNN.out.1
        have HB7 := Lib.hid (bt HB1.out B7)
        go_wp2_with fail
        refine (copyZ_any (HM.out.below HB7.out) (by omega) (by omega)).mono ?_
        rintro e wa ⟨P1, p1, d1, rfl, hz1, hb1⟩
        go_wp2_with fail
        refine (zpnorm_any hz1 (by omega) (by have := hz1.len.1; have := HM.out.len.1; omega)).mono ?_
        rintro e wb ⟨P2, p2, d2, rfl, hz2, hb2⟩
        have B8 := bt (bt B7 hb1) hb2
        have HP1 := Lib.hid (hz2.c)
        have HB8 := Lib.hid (bt HB1.out B8)
        clear hz1 hz2 hb1 hb2 B7
        go_wp2_with fail
        have x0 := (HT.out.1.below B8).1
        have x1 := (HT.out.2.1.below B8).1
        have y0 := At.grow (HT.out.1.below B8)
        have y1 := At.grow (HT.out.2.1.below B8)
        refine wp_region_grow none [(true, 0), (true, 2), (false, 1), (false, 3), (false, 4), (true, 5)] (by kernel_rfl) (by kernel_rfl) ?_
        repeat (refine ord_pas (by rfl) (fun K hK => ?_); go_simp; refine hK _ _ (fun w' hw' => (by first | (go_simp; done) | (go_simp; intro hh; cases hh))) ?_; clear hK K)
        clear x0 x1 y0 y1
        (refine ord_call (by rfl) (fun K hK => ?_); go_simp; refine hK _ _ ?_; clear hK K)
        have B9 := bt B8 (below_drewN wb 1)
        refine (copyZ_any (HM.out.below (bt HB1.out B9)) (by omega) (by omega)).mono ?_
        rintro e wd ⟨P3, p3, d3, rfl, hz3, hb3⟩
        refine ⟨_, rfl, (Grow.of_below hb3), ?_⟩
        (refine ord_norm (fun K hK => ?_); go_simp; refine hK _ ?_; clear hK K)
        have B10 := bt B9 hb3
        repeat (refine ord_pas (by rfl) (fun K hK => ?_); go_simp; refine hK _ _ (fun w' hw' => (by first | (go_simp; done) | (go_simp; intro hh; cases hh))) ?_; clear hK K)
        (refine ord_call (by rfl) (fun K hK => ?_); go_simp; refine hK _ _ ?_; clear hK K)
        refine (copyInt_any (HA.out.below (bt HB1.out B10)) (by omega)).mono ?_
        rintro e we ⟨s4, A4, n4, c4, xs4, rfl, hs4, o4, a4, v4, hb4, l4⟩
        refine ⟨_, rfl, (Grow.of_below hb4), ?_⟩
        (refine ord_norm (fun K hK => ?_); go_simp; refine hK _ ?_; clear hK K)
        have B11 := bt B10 hb4
        repeat (refine ord_pas (by rfl) (fun K hK => ?_); go_simp; refine hK _ _ (fun w' hw' => (by first | (go_simp; done) | (go_simp; intro hh; cases hh))) ?_; clear hK K)
        (refine ord_call (by rfl) (fun K hK => ?_); go_simp; refine hK _ _ ?_; clear hK K)
        have C := shiftR (K := 41 * N + 41) (t := ra.1) (hz3.below hb4) (⟨_, _, _, _, rfl, o4.rd, a4, v4, l4⟩ : Num we (.slice A4 n4 c4) ra.2 N) (by omega) (by have := hz3.len.1; have := HM.out.len.1; omega) (by omega) (by omega)
        refine C.mono ?_
        rintro e wf ⟨P5, p5, d5, rfl, hz5, hb5⟩
        refine ⟨_, rfl, (Grow.of_below hb5), ?_⟩
        (refine ord_norm (fun K hK => ?_); go_simp; refine hK _ ?_; clear hK K)
        have B12 := bt B11 hb5
        repeat (refine ord_pas (by rfl) (fun K hK => ?_); go_simp; refine hK _ _ (fun w' hw' => (by first | (go_simp; done) | (go_simp; intro hh; cases hh))) ?_; clear hK K)
        refine ord_nil ?_
        have HS5 := Lib.hid hz5
        have hp5 : p5 ≤ 40 := by have h1 := shl1_len (ztr (ps.map zv)) (sg ra.1 ra.2); have h2 := ztr_le (ps.map zv); rw [List.length_map, ← HM.out.len.1] at h2; rw [hz5.len]; omega
        have HP2 := Lib.hid (((((HP1.out.below (below_drewN wb 1)).below hb3).below hb4).below hb5))
        clear C hz3 hb3 o4 a4 v4 hb4 l4 hz5 hb5 B8 B9 B10 B11 HP1 HB8 HB7
        have B13 := bt B12 (below_drewN wf 1)
        go_wp2_with fail
        have x0 := (HT.out.1.below B12).1
        have x1 := (HT.out.2.1.below B12).1
        have y0 := At.grow (HT.out.1.below B12)
        have y1 := At.grow (HT.out.2.1.below B12)
        have x2 := (HT.out.2.2.1.below B12).1
        have x3 := (HT.out.2.2.2.below B12).1
        have y2 := At.grow (HT.out.2.2.1.below B12)
        have y3 := At.grow (HT.out.2.2.2.below B12)
        refine wp_region_grow none [(true, 0), (true, 2), (true, 5), (true, 7), (true, 9), (false, 1), (false, 3), (false, 4), (false, 6), (false, 8), (false, 10), (false, 11), (false, 12), (false, 13), (true, 14), (true, 15), (true, 16), (true, 17), (true, 21), (false, 18), (false, 19), (false, 20), (false, 22), (true, 23), (true, 24)] (by kernel_rfl) (by kernel_rfl) ?_
        repeat (refine ord_pas (by rfl) (fun K hK => ?_); go_simp; refine hK _ _ (fun w' hw' => (by first | (go_simp; done) | (go_simp; intro hh; cases hh))) ?_; clear hK K)
        clear x0 x1 y0 y1 x2 x3 y2 y3
        (refine ord_call (by rfl) (fun K hK => ?_); go_simp; refine hK _ _ ?_; clear hK K)
        refine (copyZ_any (HS5.out.below (below_drewN wf 1)).c.inp (by omega) (by omega)).mono ?_
        rintro e w4 ⟨P6, p6, d6, rfl, hz6, hb6⟩
        refine ⟨_, rfl, (Grow.of_below hb6), ?_⟩
        (refine ord_norm (fun K hK => ?_); go_simp; refine hK _ ?_; clear hK K)
        have B14 := bt B13 hb6
        repeat (refine ord_pas (by rfl) (fun K hK => ?_); go_simp; refine hK _ _ (fun w' hw' => (by first | (go_simp; done) | (go_simp; intro hh; cases hh))) ?_; clear hK K)
        (refine ord_call (by rfl) (fun K hK => ?_); go_simp; refine hK _ _ ?_; clear hK K)
        refine (copyInt_any (HX.out.below (bt HB1.out B14)) (by omega)).mono ?_
        rintro e w5 ⟨s7, A7, n7, c7, xs7, rfl, hs7, o7, a7, v7, hb7, l7⟩
        refine ⟨_, rfl, (Grow.of_below hb7), ?_⟩
        (refine ord_norm (fun K hK => ?_); go_simp; refine hK _ ?_; clear hK K)
        have B15 := bt B14 hb7
        repeat (refine ord_pas (by rfl) (fun K hK => ?_); go_simp; refine hK _ _ (fun w' hw' => (by first | (go_simp; done) | (go_simp; intro hh; cases hh))) ?_; clear hK K)
        (refine ord_call (by rfl) (fun K hK => ?_); go_simp; refine hK _ _ ?_; clear hK K)
        have N7 := fun w' (hb : Below w5.heap.size w5 w') => (⟨_, _, _, _, rfl, o7.rd.below hb, a7, v7, l7⟩ : Num w' (.slice A7 n7 c7) rx.2 N)
        refine (atR (N := 40) (K := 81 * N + 42) (t := rx.1) (hz6.below hb7) (N7 _ (Below.refl _ _)) (by have := hz6.len.1; have := HS5.out.len; simp at *; omega) (by omega) (by omega) (by omega) (by omega)).mono ?_
        rintro e w6 ⟨A8, n8, c8, s8, rfl, hs8, o8, hb8, l8⟩
        refine ⟨_, rfl, (Grow.of_below hb8), ?_⟩
        (refine ord_norm (fun K hK => ?_); go_simp; refine hK _ ?_; clear hK K)
        have B16 := bt B15 hb8
        repeat (refine ord_pas (by rfl) (fun K hK => ?_); go_simp; refine hK _ _ (fun w' hw' => (by first | (go_simp; done) | (go_simp; intro hh; cases hh))) ?_; clear hK K)
        (refine ord_call (by rfl) (fun K hK => ?_); go_simp; refine hK _ _ ?_; clear hK K)
        refine (copyZ_any (HM.out.below (bt HB1.out B16)) (by omega) (by omega)).mono ?_
        rintro e w_1 ⟨P_1, p_1, d_1, rfl, hz_1, hb_1⟩
        refine ⟨_, rfl, (Grow.of_below hb_1), ?_⟩
        (refine ord_norm (fun K hK => ?_); go_simp; refine hK _ ?_; clear hK K)
        have B_1 := bt B16 hb_1
        repeat (refine ord_pas (by rfl) (fun K hK => ?_); go_simp; refine hK _ _ (fun w' hw' => (by first | (go_simp; done) | (go_simp; intro hh; cases hh))) ?_; clear hK K)
        (refine ord_call (by rfl) (fun K hK => ?_); go_simp; refine hK _ _ ?_; clear hK K)
        refine (copyInt_any (HX.out.below (bt HB1.out B_1)) (by omega)).mono ?_
        rintro e w_2 ⟨s_2, A_2, n_2, c_2, xs_2, rfl, hs_2, o_2, a_2, v_2, hb_2, l_2⟩
        refine ⟨_, rfl, (Grow.of_below hb_2), ?_⟩
        (refine ord_norm (fun K hK => ?_); go_simp; refine hK _ ?_; clear hK K)
        have B_2 := bt B_1 hb_2
        repeat (refine ord_pas (by rfl) (fun K hK => ?_); go_simp; refine hK _ _ (fun w' hw' => (by first | (go_simp; done) | (go_simp; intro hh; cases hh))) ?_; clear hK K)
        (refine ord_call (by rfl) (fun K hK => ?_); go_simp; refine hK _ _ ?_; clear hK K)
        refine (copyInt_any (HA.out.below (bt HB1.out B_2)) (by omega)).mono ?_
        rintro e w_3 ⟨s_3, A_3, n_3, c_3, xs_3, rfl, hs_3, o_3, a_3, v_3, hb_3, l_3⟩
        refine ⟨_, rfl, (Grow.of_below hb_3), ?_⟩
        (refine ord_norm (fun K hK => ?_); go_simp; refine hK _ ?_; clear hK K)
        have B_3 := bt B_2 hb_3
        repeat (refine ord_pas (by rfl) (fun K hK => ?_); go_simp; refine hK _ _ (fun w' hw' => (by first | (go_simp; done) | (go_simp; intro hh; cases hh))) ?_; clear hK K)
        (refine ord_call (by rfl) (fun K hK => ?_); go_simp; refine hK _ _ ?_; clear hK K)
        refine (zadd_any (s := rx.1) (t := ra.1) (⟨_, _, _, _, rfl, o_2.rd.below hb_3, a_2, v_2, l_2⟩ : Num w_3 (.slice A_2 n_2 c_2) rx.2 N) (⟨_, _, _, _, rfl, o_3.rd, a_3, v_3, l_3⟩ : Num w_3 (.slice A_3 n_3 c_3) ra.2 N) (by omega) (by omega)).mono ?_
        rintro e w_4 ⟨A_4, n_4, c_4, s_4, rfl, hs_4, o_4, hb_4, l_4⟩
        refine ⟨_, rfl, (Grow.of_below hb_4), ?_⟩
        (refine ord_norm (fun K hK => ?_); go_simp; refine hK _ ?_; clear hK K)
        have B_4 := bt B_3 hb_4
        repeat (refine ord_pas (by rfl) (fun K hK => ?_); go_simp; refine hK _ _ (fun w' hw' => (by first | (go_simp; done) | (go_simp; intro hh; cases hh))) ?_; clear hK K)
        (refine ord_call (by rfl) (fun K hK => ?_); go_simp; refine hK _ _ ?_; clear hK K)
        refine (atR (N := 40) (K := 41 * N + 41) (((hz_1.below hb_2).below hb_3).below hb_4) (o_4.num l_4) (by have := hz_1.len.1; have := HM.out.len.1; omega) (by omega) (by omega) (by omega) (by omega)).mono ?_
        rintro e w_5 ⟨A_5, n_5, c_5, s_5, rfl, hs_5, o_5, hb_5, l_5⟩
        refine ⟨_, rfl, (Grow.of_below hb_5), ?_⟩
        (refine ord_norm (fun K hK => ?_); go_simp; refine hK _ ?_; clear hK K)
        have B_5 := bt B_4 hb_5
        repeat (refine ord_pas (by rfl) (fun K hK => ?_); go_simp; refine hK _ _ (fun w' hw' => (by first | (go_simp; done) | (go_simp; intro hh; cases hh))) ?_; clear hK K)
        have E1 : ev (((shl1 (ztr (ps.map zv)) (sg ra.1 ra.2)).map zco).map zv) (sg rx.1 rx.2) = ev (ps.map zv) (sg s_4 (sg rx.1 rx.2 + sg ra.1 ra.2).natAbs) := by rw [zco_map, sg_of hs_4.out, ev_shl1, ev_ztr]
        have S1a : CanY (81 * N + 42) w_5 (s8, (A8, n8, c8)) _ := ⟨hs8.out, ((((o8.rd.below hb_1).below hb_2).below hb_3).below hb_4).below hb_5, l8⟩
        have S2a : CanY (41 * N + 41) w_5 (s_5, (A_5, n_5, c_5)) _ := ⟨hs_5.out, o_5.rd, l_5⟩
        have CS := sameIntT_any S1a S2a (by omega)
        rw [decide_eq_true E1] at CS
        (refine ord_call (by rfl) (fun K hK => ?_); go_simp; refine hK _ _ ?_; clear hK K)
        refine CS.mono ?_
        rintro e w9 ⟨rfl, hb9⟩
        refine ⟨_, rfl, (Grow.of_below hb9), ?_⟩
        (refine ord_norm (fun K hK => ?_); go_simp; refine hK _ ?_; clear hK K)
        have B17 := bt B_5 hb9
        have x0 := (HT.out.1.below B17).1
        have x1 := (HT.out.2.1.below B17).1
        have y0 := At.grow0 (HT.out.1.below B17)
        have y1 := At.grow0 (HT.out.2.1.below B17)
        clear CS S1a S2a E1
        repeat (refine ord_pas (by rfl) (fun K hK => ?_); go_simp; refine hK _ _ (fun w' hw' => (by first | (go_simp; done) | (go_simp; intro hh; cases hh))) ?_; clear hK K)
        clear x0 x1 y0 y1
        have HB17 := Lib.hid (bt B14 (bt hb7 (bt hb8 (bt hb_1 (bt hb_2 (bt hb_3 (bt hb_4 (bt hb_5 hb9))))))))
        have BW := bt (below_drewN wf 1) (bt hb6 (bt hb7 (bt hb8 (bt hb_1 (bt hb_2 (bt hb_3 (bt hb_4 (bt hb_5 hb9))))))))
        (refine ord_call (by rfl) (fun K hK => ?_); go_simp; refine hK _ _ ?_; clear hK K)
        refine (copyInt_any (HA.out.below (bt HB1.out B17)) (by omega)).mono ?_
        rintro e w_6 ⟨s_6, A_6, n_6, c_6, xs_6, rfl, hs_6, o_6, a_6, v_6, hb_6, l_6⟩
        refine ⟨_, rfl, (Grow.of_below hb_6), ?_⟩
        (refine ord_norm (fun K hK => ?_); go_simp; refine hK _ ?_; clear hK K)
        have B_6 := bt B17 hb_6
        repeat (refine ord_pas (by rfl) (fun K hK => ?_); go_simp; refine hK _ _ (fun w' hw' => (by first | (go_simp; done) | (go_simp; intro hh; cases hh))) ?_; clear hK K)
        (refine ord_call (by rfl) (fun K hK => ?_); go_simp; refine hK _ _ ?_; clear hK K)
        refine (zneg_any (s := ra.1) (⟨_, _, _, _, rfl, o_6.rd, a_6, v_6, l_6⟩ : Num w_6 (.slice A_6 n_6 c_6) ra.2 N) (by omega)).mono ?_
        rintro e w_7 ⟨A_7, n_7, c_7, s_7, rfl, hs_7, o_7, hb_7, l_7⟩
        refine ⟨_, rfl, (Grow.of_below hb_7), ?_⟩
        (refine ord_norm (fun K hK => ?_); go_simp; refine hK _ ?_; clear hK K)
        have B_7 := bt B_6 hb_7
        repeat (refine ord_pas (by rfl) (fun K hK => ?_); go_simp; refine hK _ _ (fun w' hw' => (by first | (go_simp; done) | (go_simp; intro hh; cases hh))) ?_; clear hK K)
        have E2 : shl1 (ztr (shl1 (ztr (ps.map zv)) (sg ra.1 ra.2))) (-(sg ra.1 ra.2)) = ztr (ps.map zv) := by
          rw [show ztr (shl1 (ztr (ps.map zv)) (sg ra.1 ra.2)) = shl1 (ztr (ps.map zv)) (sg ra.1 ra.2) from ztr_idem _, shl1_back, ztr_idem]
        have C := shiftR (K := 81 * N + 82) (M := N) (t := s_7) (((HS5.out.below BW).below hb_6).below hb_7).c.inp (o_7.num l_7) (by omega) (by omega) (by omega) (by omega)
        rw [zco_map, sg_of hs_7.out, E2] at C
        (refine ord_call (by rfl) (fun K hK => ?_); go_simp; refine hK _ _ ?_; clear hK K)
        refine C.mono ?_
        rintro e wg ⟨P9, p9, d9, rfl, hz9, hb10⟩
        refine ⟨_, rfl, (Grow.of_below hb10), ?_⟩
        (refine ord_norm (fun K hK => ?_); go_simp; refine hK _ ?_; clear hK K)
        have B18 := bt B_7 hb10
        repeat (refine ord_pas (by rfl) (fun K hK => ?_); go_simp; refine hK _ _ (fun w' hw' => (by first | (go_simp; done) | (go_simp; intro hh; cases hh))) ?_; clear hK K)
        (refine ord_call (by rfl) (fun K hK => ?_); go_simp; refine hK _ _ ?_; clear hK K)
        have hp9 : p9 ≤ 40 := by have h2 := ztr_le (ps.map zv); rw [List.length_map, ← HM.out.len.1] at h2; rw [hz9.len]; omega
        refine (sameZ_yes hz9.c ((((HP2.out.below BW).below hb_6).below hb_7).below hb10) (by omega) (by omega)).mono ?_
        rintro e wh ⟨rfl, hb11⟩
        refine ⟨_, rfl, (Grow.of_below hb11), ?_⟩
        (refine ord_norm (fun K hK => ?_); go_simp; refine hK _ ?_; clear hK K)
        have B19 := bt B18 hb11
        repeat (refine ord_pas (by rfl) (fun K hK => ?_); go_simp; refine hK _ _ (fun w' hw' => (by first | (go_simp; done) | (go_simp; intro hh; cases hh))) ?_; clear hK K)
        refine ord_nil ?_
        have HP3 := Lib.hid (((((HP2.out.below BW).below hb_6).below hb_7).below hb10).below hb11)
        have HB19 := Lib.hid B19
        clear hz6 hb6 B13 B14 o7 a7 v7 hb7 l7 B15 N7 hs8 o8 hb8 l8 B16 hz_1 hb_1 B_1 o_2 a_2 v_2 hb_2 l_2 B_2 o_3 a_3 v_3 hb_3 l_3 B_3 hs_4 o_4 hb_4 l_4 B_4 hs_5 o_5 hb_5 l_5 B_5 hb9 B17 HB17 BW o_6 a_6 v_6 hb_6 l_6 B_6 hs_7 o_7 hb_7 l_7 B_7 E2 C hz9 hb10 B18 hp9 hb11 HP2 HS5 B12
        go_wp2_with fail
        have x0 := (HT.out.1.below B19).1
        have x1 := (HT.out.2.1.below B19).1
        have y0 := At.grow (HT.out.1.below B19)
        have y1 := At.grow (HT.out.2.1.below B19)
        have x2 := (HT.out.2.2.1.below B19).1
        have x3 := (HT.out.2.2.2.below B19).1
        have y2 := At.grow (HT.out.2.2.1.below B19)
        have y3 := At.grow (HT.out.2.2.2.below B19)
        refine wp_region_grow none [(true, 0), (true, 2), (true, 5), (true, 8), (true, 10), (true, 12), (false, 1), (false, 3), (false, 4), (false, 6), (false, 7), (false, 9), (false, 11), (false, 13), (false, 14), (false, 15), (false, 16), (true, 17), (true, 18), (true, 19), (true, 22), (true, 25), (true, 27), (false, 20), (false, 21), (false, 23), (false, 24), (false, 26), (false, 28), (false, 29), (false, 30), (false, 31), (true, 32), (true, 33)] (by kernel_rfl) (by kernel_rfl) ?_
        repeat (refine ord_pas (by rfl) (fun K hK => ?_); go_simp; refine hK _ _ (fun w' hw' => (by first | (go_simp; done) | (go_simp; intro hh; cases hh))) ?_; clear hK K)
        clear x0 x1 y0 y1 x2 x3 y2 y3
        have B20 := bt B19 (below_drewN wh 1)
        (refine ord_call (by rfl) (fun K hK => ?_); go_simp; refine hK _ _ ?_; clear hK K)
        refine (copyZ_any (HM.out.below (bt HB1.out B20)) (by omega) (by omega)).mono ?_
        rintro e w_11 ⟨P_11, p_11, d_11, rfl, hz_11, hb_11⟩
        refine ⟨_, rfl, (Grow.of_below hb_11), ?_⟩
        (refine ord_norm (fun K hK => ?_); go_simp; refine hK _ ?_; clear hK K)
        have B_11 := bt B20 hb_11
        repeat (refine ord_pas (by rfl) (fun K hK => ?_); go_simp; refine hK _ _ (fun w' hw' => (by first | (go_simp; done) | (go_simp; intro hh; cases hh))) ?_; clear hK K)
        (refine ord_call (by rfl) (fun K hK => ?_); go_simp; refine hK _ _ ?_; clear hK K)
        refine (copyInt_any (HA.out.below (bt HB1.out B_11)) (by omega)).mono ?_
        rintro e w_12 ⟨s_12, A_12, n_12, c_12, xs_12, rfl, hs_12, o_12, a_12, v_12, hb_12, l_12⟩
        refine ⟨_, rfl, (Grow.of_below hb_12), ?_⟩
        (refine ord_norm (fun K hK => ?_); go_simp; refine hK _ ?_; clear hK K)
        have B_12 := bt B_11 hb_12
        repeat (refine ord_pas (by rfl) (fun K hK => ?_); go_simp; refine hK _ _ (fun w' hw' => (by first | (go_simp; done) | (go_simp; intro hh; cases hh))) ?_; clear hK K)
        (refine ord_call (by rfl) (fun K hK => ?_); go_simp; refine hK _ _ ?_; clear hK K)
        refine (scaleR (K := 42 * N + 1) (M := N) (t := ra.1) (hz_11.below hb_12) (⟨_, _, _, _, rfl, o_12.rd, a_12, v_12, l_12⟩ : Num w_12 (.slice A_12 n_12 c_12) ra.2 N) (by have := hz_11.len.1; have := HM.out.len.1; omega) (by omega) (by omega)).mono ?_
        rintro e w_13 ⟨P_13, p_13, d_13, rfl, hz_13, hb_13⟩
        refine ⟨_, rfl, (Grow.of_below hb_13), ?_⟩
        (refine ord_norm (fun K hK => ?_); go_simp; refine hK _ ?_; clear hK K)
        have B_13 := bt B_12 hb_13
        repeat (refine ord_pas (by rfl) (fun K hK => ?_); go_simp; refine hK _ _ (fun w' hw' => (by first | (go_simp; done) | (go_simp; intro hh; cases hh))) ?_; clear hK K)
        (refine ord_call (by rfl) (fun K hK => ?_); go_simp; refine hK _ _ ?_; clear hK K)
        refine (copyInt_any (HX.out.below (bt HB1.out B_13)) (by omega)).mono ?_
        rintro e w_14 ⟨s_14, A_14, n_14, c_14, xs_14, rfl, hs_14, o_14, a_14, v_14, hb_14, l_14⟩
        refine ⟨_, rfl, (Grow.of_below hb_14), ?_⟩
        (refine ord_norm (fun K hK => ?_); go_simp; refine hK _ ?_; clear hK K)
        have B_14 := bt B_13 hb_14
        repeat (refine ord_pas (by rfl) (fun K hK => ?_); go_simp; refine hK _ _ (fun w' hw' => (by first | (go_simp; done) | (go_simp; intro hh; cases hh))) ?_; clear hK K)
        have hp13 : p_13 ≤ 40 := by
          rw [hz_13.len]
          have h1 := ztr_le (scl (ztr (ps.map zv)) (sg ra.1 ra.2))
          have h2 := ztr_le (ps.map zv)
          rw [List.length_map, ← HM.out.len.1] at h2
          have h3 : (scl (ztr (ps.map zv)) (sg ra.1 ra.2)).length = (ztr (ps.map zv)).length := by simp [scl]
          omega
        (refine ord_call (by rfl) (fun K hK => ?_); go_simp; refine hK _ _ ?_; clear hK K)
        refine (atR (N := 40) (K := 82 * N + 2) (t := rx.1) (hz_13.below hb_14).c.inp (⟨_, _, _, _, rfl, o_14.rd, a_14, v_14, l_14⟩ : Num w_14 (.slice A_14 n_14 c_14) rx.2 N) hp13 (by omega) (by omega) (by omega) (by omega)).mono ?_
        rintro e w_15 ⟨A_15, n_15, c_15, s_15, rfl, hs_15, o_15, hb_15, l_15⟩
        refine ⟨_, rfl, (Grow.of_below hb_15), ?_⟩
        (refine ord_norm (fun K hK => ?_); go_simp; refine hK _ ?_; clear hK K)
        have B_15 := bt B_14 hb_15
        repeat (refine ord_pas (by rfl) (fun K hK => ?_); go_simp; refine hK _ _ (fun w' hw' => (by first | (go_simp; done) | (go_simp; intro hh; cases hh))) ?_; clear hK K)
        (refine ord_call (by rfl) (fun K hK => ?_); go_simp; refine hK _ _ ?_; clear hK K)
        refine (copyZ_any (HM.out.below (bt HB1.out B_15)) (by omega) (by omega)).mono ?_
        rintro e w_16 ⟨P_16, p_16, d_16, rfl, hz_16, hb_16⟩
        refine ⟨_, rfl, (Grow.of_below hb_16), ?_⟩
        (refine ord_norm (fun K hK => ?_); go_simp; refine hK _ ?_; clear hK K)
        have B_16 := bt B_15 hb_16
        repeat (refine ord_pas (by rfl) (fun K hK => ?_); go_simp; refine hK _ _ (fun w' hw' => (by first | (go_simp; done) | (go_simp; intro hh; cases hh))) ?_; clear hK K)
        (refine ord_call (by rfl) (fun K hK => ?_); go_simp; refine hK _ _ ?_; clear hK K)
        refine (copyInt_any (HA.out.below (bt HB1.out B_16)) (by omega)).mono ?_
        rintro e w_17 ⟨s_17, A_17, n_17, c_17, xs_17, rfl, hs_17, o_17, a_17, v_17, hb_17, l_17⟩
        refine ⟨_, rfl, (Grow.of_below hb_17), ?_⟩
        (refine ord_norm (fun K hK => ?_); go_simp; refine hK _ ?_; clear hK K)
        have B_17 := bt B_16 hb_17
        repeat (refine ord_pas (by rfl) (fun K hK => ?_); go_simp; refine hK _ _ (fun w' hw' => (by first | (go_simp; done) | (go_simp; intro hh; cases hh))) ?_; clear hK K)
        (refine ord_call (by rfl) (fun K hK => ?_); go_simp; refine hK _ _ ?_; clear hK K)
        refine (copyInt_any (HX.out.below (bt HB1.out B_17)) (by omega)).mono ?_
        rintro e w_18 ⟨s_18, A_18, n_18, c_18, xs_18, rfl, hs_18, o_18, a_18, v_18, hb_18, l_18⟩
        refine ⟨_, rfl, (Grow.of_below hb_18), ?_⟩
        (refine ord_norm (fun K hK => ?_); go_simp; refine hK _ ?_; clear hK K)
        have B_18 := bt B_17 hb_18
        repeat (refine ord_pas (by rfl) (fun K hK => ?_); go_simp; refine hK _ _ (fun w' hw' => (by first | (go_simp; done) | (go_simp; intro hh; cases hh))) ?_; clear hK K)
        (refine ord_call (by rfl) (fun K hK => ?_); go_simp; refine hK _ _ ?_; clear hK K)
        refine (zmul_any (s := ra.1) (t := rx.1) (⟨_, _, _, _, rfl, o_17.rd.below hb_18, a_17, v_17, l_17⟩ : Num w_18 (.slice A_17 n_17 c_17) ra.2 N) (⟨_, _, _, _, rfl, o_18.rd, a_18, v_18, l_18⟩ : Num w_18 (.slice A_18 n_18 c_18) rx.2 N) (by omega) (by omega)).mono ?_
        rintro e w_19 ⟨A_19, n_19, c_19, s_19, rfl, hs_19, o_19, hb_19, l_19⟩
        refine ⟨_, rfl, (Grow.of_below hb_19), ?_⟩
        (refine ord_norm (fun K hK => ?_); go_simp; refine hK _ ?_; clear hK K)
        have B_19 := bt B_18 hb_19
        repeat (refine ord_pas (by rfl) (fun K hK => ?_); go_simp; refine hK _ _ (fun w' hw' => (by first | (go_simp; done) | (go_simp; intro hh; cases hh))) ?_; clear hK K)
        (refine ord_call (by rfl) (fun K hK => ?_); go_simp; refine hK _ _ ?_; clear hK K)
        refine (atR (N := 40) (K := 81 * N + 1) (((hz_16.below hb_17).below hb_18).below hb_19) (o_19.num l_19) (by have := hz_16.len.1; have := HM.out.len.1; omega) (by omega) (by omega) (by omega) (by omega)).mono ?_
        rintro e w_20 ⟨A_20, n_20, c_20, s_20, rfl, hs_20, o_20, hb_20, l_20⟩
        refine ⟨_, rfl, (Grow.of_below hb_20), ?_⟩
        (refine ord_norm (fun K hK => ?_); go_simp; refine hK _ ?_; clear hK K)
        have B_20 := bt B_19 hb_20
        repeat (refine ord_pas (by rfl) (fun K hK => ?_); go_simp; refine hK _ _ (fun w' hw' => (by first | (go_simp; done) | (go_simp; intro hh; cases hh))) ?_; clear hK K)
        have E3 : ev (((ztr (scl (ztr (ps.map zv)) (sg ra.1 ra.2))).map zco).map zv) (sg rx.1 rx.2) = ev (ps.map zv) (sg s_19 (sg ra.1 ra.2 * sg rx.1 rx.2).natAbs) := by rw [zco_map, sg_of hs_19.out, ev_scl, ev_ztr]
        have S1a : CanY (82 * N + 2) w_20 (s_15, (A_15, n_15, c_15)) _ := ⟨hs_15.out, ((((o_15.rd.below hb_16).below hb_17).below hb_18).below hb_19).below hb_20, l_15⟩
        have S2a : CanY (81 * N + 1) w_20 (s_20, (A_20, n_20, c_20)) _ := ⟨hs_20.out, o_20.rd, l_20⟩
        have CS := sameIntT_any S1a S2a (by omega)
        rw [decide_eq_true E3] at CS
        (refine ord_call (by rfl) (fun K hK => ?_); go_simp; refine hK _ _ ?_; clear hK K)
        refine CS.mono ?_
        rintro e w21 ⟨rfl, hb21⟩
        refine ⟨_, rfl, (Grow.of_below hb21), ?_⟩
        (refine ord_norm (fun K hK => ?_); go_simp; refine hK _ ?_; clear hK K)
        have B21 := bt B_20 hb21
        have x2 := (HT.out.2.2.1.below B21).1
        have x3 := (HT.out.2.2.2.below B21).1
        have y2 := At.grow0 (HT.out.2.2.1.below B21)
        have y3 := At.grow0 (HT.out.2.2.2.below B21)
        have BV := bt (below_drewN wh 1) (bt hb_11 (bt hb_12 (bt hb_13 (bt hb_14 (bt hb_15 (bt hb_16 (bt hb_17 (bt hb_18 (bt hb_19 (bt hb_20 hb21))))))))))
        clear CS S1a S2a E3 hz_11 o_12 a_12 v_12 l_12 hz_13 o_14 a_14 v_14 l_14 hs_15 o_15 l_15 hz_16 o_17 a_17 v_17 l_17 o_18 a_18 v_18 l_18 hs_19 o_19 l_19 hs_20 o_20 l_20 hp13 hb_11 hb_12 hb_13 hb_14 hb_15 hb_16 hb_17 hb_18 hb_19 hb_20 hb21
        repeat (refine ord_pas (by rfl) (fun K hK => ?_); go_simp; refine hK _ _ (fun w' hw' => (by first | (go_simp; done) | (go_simp; intro hh; cases hh))) ?_; clear hK K)
        clear x2 x3 y2 y3
        (refine ord_call (by rfl) (fun K hK => ?_); go_simp; refine hK _ _ ?_; clear hK K)
        refine (copyZ_any (HM.out.below (bt HB1.out B21)) (by omega) (by omega)).mono ?_
        rintro e w_21 ⟨P_21, p_21, d_21, rfl, hz_21, hb_21⟩
        refine ⟨_, rfl, (Grow.of_below hb_21), ?_⟩
        (refine ord_norm (fun K hK => ?_); go_simp; refine hK _ ?_; clear hK K)
        have B_21 := bt B21 hb_21
        repeat (refine ord_pas (by rfl) (fun K hK => ?_); go_simp; refine hK _ _ (fun w' hw' => (by first | (go_simp; done) | (go_simp; intro hh; cases hh))) ?_; clear hK K)
        (refine ord_call (by rfl) (fun K hK => ?_); go_simp; refine hK _ _ ?_; clear hK K)
        refine (flipR (K := N + 42) hz_21 (by have := hz_21.len.1; have := HM.out.len.1; omega) (by omega) (by omega)).mono ?_
        rintro e w_22 ⟨P_22, p_22, d_22, rfl, hz_22, hb_22⟩
        refine ⟨_, rfl, (Grow.of_below hb_22), ?_⟩
        (refine ord_norm (fun K hK => ?_); go_simp; refine hK _ ?_; clear hK K)
        have B_22 := bt B_21 hb_22
        repeat (refine ord_pas (by rfl) (fun K hK => ?_); go_simp; refine hK _ _ (fun w' hw' => (by first | (go_simp; done) | (go_simp; intro hh; cases hh))) ?_; clear hK K)
        (refine ord_call (by rfl) (fun K hK => ?_); go_simp; refine hK _ _ ?_; clear hK K)
        refine (copyInt_any (HX.out.below (bt HB1.out B_22)) (by omega)).mono ?_
        rintro e w_23 ⟨s_23, A_23, n_23, c_23, xs_23, rfl, hs_23, o_23, a_23, v_23, hb_23, l_23⟩
        refine ⟨_, rfl, (Grow.of_below hb_23), ?_⟩
        (refine ord_norm (fun K hK => ?_); go_simp; refine hK _ ?_; clear hK K)
        have B_23 := bt B_22 hb_23
        repeat (refine ord_pas (by rfl) (fun K hK => ?_); go_simp; refine hK _ _ (fun w' hw' => (by first | (go_simp; done) | (go_simp; intro hh; cases hh))) ?_; clear hK K)
        have hp22 : p_22 ≤ 40 := by
          rw [hz_22.len]
          have h1 := ztr_le (scl (ztr (ps.map zv)) (-1))
          have h2 := ztr_le (ps.map zv)
          rw [List.length_map, ← HM.out.len.1] at h2
          have h3 : (scl (ztr (ps.map zv)) (-1)).length = (ztr (ps.map zv)).length := by simp [scl]
          omega
        (refine ord_call (by rfl) (fun K hK => ?_); go_simp; refine hK _ _ ?_; clear hK K)
        refine (atR (N := 40) (K := 41 * N + 43) (t := rx.1) (hz_22.below hb_23).c.inp (⟨_, _, _, _, rfl, o_23.rd, a_23, v_23, l_23⟩ : Num w_23 (.slice A_23 n_23 c_23) rx.2 N) hp22 (by omega) (by omega) (by omega) (by omega)).mono ?_
        rintro e w_24 ⟨A_24, n_24, c_24, s_24, rfl, hs_24, o_24, hb_24, l_24⟩
        refine ⟨_, rfl, (Grow.of_below hb_24), ?_⟩
        (refine ord_norm (fun K hK => ?_); go_simp; refine hK _ ?_; clear hK K)
        have B_24 := bt B_23 hb_24
        repeat (refine ord_pas (by rfl) (fun K hK => ?_); go_simp; refine hK _ _ (fun w' hw' => (by first | (go_simp; done) | (go_simp; intro hh; cases hh))) ?_; clear hK K)
        (refine ord_call (by rfl) (fun K hK => ?_); go_simp; refine hK _ _ ?_; clear hK K)
        refine (copyZ_any (HM.out.below (bt HB1.out B_24)) (by omega) (by omega)).mono ?_
        rintro e w_25 ⟨P_25, p_25, d_25, rfl, hz_25, hb_25⟩
        refine ⟨_, rfl, (Grow.of_below hb_25), ?_⟩
        (refine ord_norm (fun K hK => ?_); go_simp; refine hK _ ?_; clear hK K)
        have B_25 := bt B_24 hb_25
        repeat (refine ord_pas (by rfl) (fun K hK => ?_); go_simp; refine hK _ _ (fun w' hw' => (by first | (go_simp; done) | (go_simp; intro hh; cases hh))) ?_; clear hK K)
        (refine ord_call (by rfl) (fun K hK => ?_); go_simp; refine hK _ _ ?_; clear hK K)
        refine (copyInt_any (HX.out.below (bt HB1.out B_25)) (by omega)).mono ?_
        rintro e w_26 ⟨s_26, A_26, n_26, c_26, xs_26, rfl, hs_26, o_26, a_26, v_26, hb_26, l_26⟩
        refine ⟨_, rfl, (Grow.of_below hb_26), ?_⟩
        (refine ord_norm (fun K hK => ?_); go_simp; refine hK _ ?_; clear hK K)
        have B_26 := bt B_25 hb_26
        repeat (refine ord_pas (by rfl) (fun K hK => ?_); go_simp; refine hK _ _ (fun w' hw' => (by first | (go_simp; done) | (go_simp; intro hh; cases hh))) ?_; clear hK K)
        (refine ord_call (by rfl) (fun K hK => ?_); go_simp; refine hK _ _ ?_; clear hK K)
        refine (zneg_any (s := rx.1) (⟨_, _, _, _, rfl, o_26.rd, a_26, v_26, l_26⟩ : Num w_26 (.slice A_26 n_26 c_26) rx.2 N) (by omega)).mono ?_
        rintro e w_27 ⟨A_27, n_27, c_27, s_27, rfl, hs_27, o_27, hb_27, l_27⟩
        refine ⟨_, rfl, (Grow.of_below hb_27), ?_⟩
        (refine ord_norm (fun K hK => ?_); go_simp; refine hK _ ?_; clear hK K)
        have B_27 := bt B_26 hb_27
        repeat (refine ord_pas (by rfl) (fun K hK => ?_); go_simp; refine hK _ _ (fun w' hw' => (by first | (go_simp; done) | (go_simp; intro hh; cases hh))) ?_; clear hK K)
        (refine ord_call (by rfl) (fun K hK => ?_); go_simp; refine hK _ _ ?_; clear hK K)
        refine (atR (N := 40) (K := 41 * N + 1) ((hz_25.below hb_26).below hb_27) (o_27.num l_27) (by have := hz_25.len.1; have := HM.out.len.1; omega) (by omega) (by omega) (by omega) (by omega)).mono ?_
        rintro e w_28 ⟨A_28, n_28, c_28, s_28, rfl, hs_28, o_28, hb_28, l_28⟩
        refine ⟨_, rfl, (Grow.of_below hb_28), ?_⟩
        (refine ord_norm (fun K hK => ?_); go_simp; refine hK _ ?_; clear hK K)
        have B_28 := bt B_27 hb_28
        repeat (refine ord_pas (by rfl) (fun K hK => ?_); go_simp; refine hK _ _ (fun w' hw' => (by first | (go_simp; done) | (go_simp; intro hh; cases hh))) ?_; clear hK K)
        have E4 : ev (((ztr (scl (ztr (ps.map zv)) (-1))).map zco).map zv) (sg rx.1 rx.2) = ev (ps.map zv) (sg s_27 (-(sg rx.1 rx.2)).natAbs) := by rw [zco_map, sg_of hs_27.out, ev_scl, ev_ztr, Int.neg_one_mul]
        have S1a : CanY (41 * N + 43) w_28 (s_24, (A_24, n_24, c_24)) _ := ⟨hs_24.out, (((o_24.rd.below hb_25).below hb_26).below hb_27).below hb_28, l_24⟩
        have S2a : CanY (41 * N + 1) w_28 (s_28, (A_28, n_28, c_28)) _ := ⟨hs_28.out, o_28.rd, l_28⟩
        have CS := sameIntT_any S1a S2a (by omega)
        rw [decide_eq_true E4] at CS
        (refine ord_call (by rfl) (fun K hK => ?_); go_simp; refine hK _ _ ?_; clear hK K)
        refine CS.mono ?_
        rintro e w29 ⟨rfl, hb29⟩
        refine ⟨_, rfl, (Grow.of_below hb29), ?_⟩
        (refine ord_norm (fun K hK => ?_); go_simp; refine hK _ ?_; clear hK K)
        have B29 := bt B_28 hb29
        repeat (refine ord_pas (by rfl) (fun K hK => ?_); go_simp; refine hK _ _ (fun w' hw' => (by first | (go_simp; done) | (go_simp; intro hh; cases hh))) ?_; clear hK K)
        refine ord_nil ?_
        have HP4 := Lib.hid (HP3.out.below (bt BV (bt hb_21 (bt hb_22 (bt hb_23 (bt hb_24 (bt hb_25 (bt hb_26 (bt hb_27 (bt hb_28 hb29))))))))))
        clear CS S1a S2a E4 hz_21 hz_22 o_23 a_23 v_23 l_23 hp22 hs_24 o_24 l_24 hz_25 o_26 a_26 v_26 l_26 hs_27 o_27 l_27 hs_28 o_28 l_28 hb_21 hb_22 hb_23 hb_24 hb_25 hb_26 hb_27 hb_28 hb29 BV HP3 B19 B20 B_11 B_12 B_13 B_14 B_15 B_16 B_17 B_18 B_19 B_20 B21 B_21 B_22 B_23 B_24 B_25 B_26 B_27 B_28 HB19
        go_wp2_with fail
        refine (copyZ_any (HM.out.below (bt HB1.out B29)) (by omega) (by omega)).mono ?_
        rintro e w30 ⟨P30, p30, d30, rfl, hz30, hb30⟩
        go_wp2_with fail
        have CD := zdeg_any hz30 (by omega) (by have := hz30.len.1; have := HM.out.len.1; omega)
        obtain ⟨dq, hdg⟩ : ∃ dq : Int, dq = (ztl (ps.map zv) : Int) - 1 := ⟨_, rfl⟩
        rw [← hdg] at CD
        refine CD.mono ?_
        rintro e w31 ⟨rfl, hb31⟩
        clear CD
        have B31 := bt (bt B29 hb30) hb31
        have HP5 := Lib.hid ((HP4.out.below hb30).below hb31)
        have HDG := Lib.hid hdg
        clear hz30 hb30 hb31 HP4 B29 hdg
        go_upto_if 111 with fail
        go_cut [] from 112 to 162 (fun wx => Below w1.heap.size w1 wx)
        case first =>
          rcases hk : ztl (ps.map zv) with _ | kk
          · obtain rfl : dq = -1 := by have h := HDG.out; rw [hk] at h; omega
            clear hk HDG
            go_wp2_with fail
            go_meet
            case rel => exact B31
          · obtain rfl : dq = (kk : Int) := by have h := HDG.out; rw [hk] at h; omega
            have hkk : kk < 40 := by have h1 := ztl_le (ps.map zv); rw [List.length_map, ← HM.out.len.1] at h1; omega
            have d1 : decide ((0 : Int) ≤ (kk : Int)) = true := decide_eq_true (by omega)
            have HK1 := Lib.hid hk
            clear hk HDG
            go_wp2_with fail
            refine (copyZ_any (HM.out.below (bt HB1.out B31)) (by omega) (by omega)).mono ?_
            rintro e w40 ⟨P40, p40, d40, rfl, hz40, hb40⟩
            go_wp2_with fail
            have C := reverse_any (m := kk) hz40 (by omega) (by have := hz40.len.1; have := HM.out.len.1; omega) (by rw [ztr_len]; exact Nat.le_of_eq HK1.out) (by omega)
            refine C.mono ?_
            rintro e w41 ⟨P41, p41, d41, rfl, hz41, hb41⟩
            clear C
            have B41 := bt (bt B31 hb40) hb41
            have hp41 : p41 ≤ kk + 1 := by rw [hz41.len]; refine Nat.le_trans (ztr_le _) ?_; simp [revl]
            go_wp2_with fail
            refine (copyZ_any hz41.c.inp (by omega) (by omega)).mono ?_
            rintro e w42 ⟨P42, p42, d42, rfl, hz42, hb42⟩
            go_wp2_with fail
            have hR1 : (revl (ztr (ps.map zv)) kk).length = kk + 1 := by simp [revl]
            have E5 : ztr (revl (ztr (((ztr (revl (ztr (ps.map zv)) kk)).map zco).map zv)) kk) = ztr (ps.map zv) := by
              rw [zco_map, ztr_idem, revl_back (by rw [ztr_len]; exact Nat.le_of_eq HK1.out), ztr_idem]
            have C := reverse_any (m := kk) hz42 (by omega) (by have := hz42.len.1; rw [List.length_map] at this; have := hz41.len; omega) (by rw [zco_map]; refine Nat.le_trans (ztr_le _) ?_; rw [← hz41.len]; exact hp41) (by omega)
            rw [E5] at C
            refine C.mono ?_
            rintro e w43 ⟨P43, p43, d43, rfl, hz43, hb43⟩
            have B43 := bt (bt B41 hb42) hb43
            have HZ41 := Lib.hid (((hz41.below hb42).below hb43).below (below_drewN w43 1))
            have HP6 := Lib.hid (((((HP5.out.below hb40).below hb41).below hb42).below hb43).below (below_drewN w43 1))
            have HZ43 := Lib.hid (hz43.below (below_drewN w43 1))
            have B44 := bt B43 (below_drewN w43 1)
            obtain ⟨dd, hdd⟩ : ∃ dd : Bool, dd = decide (hom (ztr (ztr (revl (ztr (ps.map zv)) kk))) (sg rx.1 rx.2) (sg ra.1 ra.2) = hom (ztr (ps.map zv)) (sg ra.1 ra.2) (sg rx.1 rx.2)) := ⟨_, rfl⟩
            have HDD := Lib.hid hdd
            have HR1 := Lib.hid hR1
            have hp43 : p43 ≤ 41 := by rw [hz43.len]; have h2 := ztr_le (ps.map zv); rw [List.length_map, ← HM.out.len.1] at h2; omega
            clear C E5 hz40 hb40 hz41 hb41 hz42 hb42 hz43 hb43 B41 B43 hdd hR1 d1
            go_wp2_with fail
            refine wp_region_grow none [(true, 0), (true, 1), (true, 2), (true, 3), (true, 4), (true, 5), (true, 6), (true, 7), (true, 8), (false, 9), (true, 10), (true, 11), (true, 12), (true, 13), (true, 15), (true, 17), (true, 20), (true, 22), (true, 24), (false, 14), (false, 16), (false, 18), (false, 19), (false, 21), (false, 23), (false, 25), (false, 26), (false, 27), (true, 28), (true, 29), (true, 30), (true, 33), (false, 31), (false, 32), (true, 34), (true, 35), (true, 36)] (by kernel_rfl) (by kernel_rfl) ?_
            repeat (refine ord_pas (by rfl) (fun K hK => ?_); go_simp; refine hK _ _ (fun w' hw' => (by first | (go_simp; done) | (go_simp; intro hh; cases hh))) ?_; clear hK K)
            (refine ord_call (by rfl) (fun K hK => ?_); go_simp; refine hK _ _ ?_; clear hK K)
            refine (sameZ_yes HZ43.out.c HP6.out (by omega) (by omega)).mono ?_
            rintro e w44 ⟨rfl, hb44⟩
            refine ⟨_, rfl, (Grow.of_below hb44), ?_⟩
            (refine ord_norm (fun K hK => ?_); go_simp; refine hK _ ?_; clear hK K)
            have B45 := bt B44 hb44
            have x0 := (HT.out.1.below B45).1
            have x1 := (HT.out.2.1.below B45).1
            have x2 := (HT.out.2.2.1.below B45).1
            have x3 := (HT.out.2.2.2.below B45).1
            have y0 := At.grow0 (HT.out.1.below B45)
            have y1 := At.grow0 (HT.out.2.1.below B45)
            have y2 := At.grow0 (HT.out.2.2.1.below B45)
            have y3 := At.grow0 (HT.out.2.2.2.below B45)
            repeat (refine ord_pas (by rfl) (fun K hK => ?_); go_simp; refine hK _ _ (fun w' hw' => (by first | (go_simp; done) | (go_simp; intro hh; cases hh))) ?_; clear hK K)
            clear x0 x1 x2 x3 y0 y1 y2 y3
            (refine ord_call (by rfl) (fun K hK => ?_); go_simp; refine hK _ _ ?_; clear hK K)
            refine (copyZ_any ((HZ41.out.below hb44).c.inp) (by omega) (by omega)).mono ?_
            rintro e w_51 ⟨P_51, p_51, d_51, rfl, hz_51, hb_51⟩
            refine ⟨_, rfl, (Grow.of_below hb_51), ?_⟩
            (refine ord_norm (fun K hK => ?_); go_simp; refine hK _ ?_; clear hK K)
            have B_51 := bt B45 hb_51
            repeat (refine ord_pas (by rfl) (fun K hK => ?_); go_simp; refine hK _ _ (fun w' hw' => (by first | (go_simp; done) | (go_simp; intro hh; cases hh))) ?_; clear hK K)
            (refine ord_call (by rfl) (fun K hK => ?_); go_simp; refine hK _ _ ?_; clear hK K)
            refine (copyInt_any (HX.out.below (bt HB1.out B_51)) (by omega)).mono ?_
            rintro e w_52 ⟨s_52, A_52, n_52, c_52, xs_52, rfl, hs_52, o_52, a_52, v_52, hb_52, l_52⟩
            refine ⟨_, rfl, (Grow.of_below hb_52), ?_⟩
            (refine ord_norm (fun K hK => ?_); go_simp; refine hK _ ?_; clear hK K)
            have B_52 := bt B_51 hb_52
            repeat (refine ord_pas (by rfl) (fun K hK => ?_); go_simp; refine hK _ _ (fun w' hw' => (by first | (go_simp; done) | (go_simp; intro hh; cases hh))) ?_; clear hK K)
            (refine ord_call (by rfl) (fun K hK => ?_); go_simp; refine hK _ _ ?_; clear hK K)
            refine (copyInt_any (HA.out.below (bt HB1.out B_52)) (by omega)).mono ?_
            rintro e w_53 ⟨s_53, A_53, n_53, c_53, xs_53, rfl, hs_53, o_53, a_53, v_53, hb_53, l_53⟩
            refine ⟨_, rfl, (Grow.of_below hb_53), ?_⟩
            (refine ord_norm (fun K hK => ?_); go_simp; refine hK _ ?_; clear hK K)
            have B_53 := bt B_52 hb_53
            repeat (refine ord_pas (by rfl) (fun K hK => ?_); go_simp; refine hK _ _ (fun w' hw' => (by first | (go_simp; done) | (go_simp; intro hh; cases hh))) ?_; clear hK K)
            have hp51 : p_51 ≤ 41 := by have := hz_51.len.1; rw [List.length_map, ← HZ41.out.len] at this; omega
            (refine ord_call (by rfl) (fun K hK => ?_); go_simp; refine hK _ _ ?_; clear hK K)
            refine (homR (K := 42 * N + 1) (s := rx.1) (t := ra.1) ((hz_51.below hb_52).below hb_53) (⟨_, _, _, _, rfl, o_52.rd.below hb_53, a_52, v_52, l_52⟩ : Num w_53 (.slice A_52 n_52 c_52) rx.2 N) (⟨_, _, _, _, rfl, o_53.rd, a_53, v_53, l_53⟩ : Num w_53 (.slice A_53 n_53 c_53) ra.2 N) hp51 (by omega) (by omega)).mono ?_
            rintro e w_54 ⟨A_54, n_54, c_54, s_54, rfl, hs_54, o_54, hb_54, l_54⟩
            refine ⟨_, rfl, (Grow.of_below hb_54), ?_⟩
            (refine ord_norm (fun K hK => ?_); go_simp; refine hK _ ?_; clear hK K)
            have B_54 := bt B_53 hb_54
            repeat (refine ord_pas (by rfl) (fun K hK => ?_); go_simp; refine hK _ _ (fun w' hw' => (by first | (go_simp; done) | (go_simp; intro hh; cases hh))) ?_; clear hK K)
            (refine ord_call (by rfl) (fun K hK => ?_); go_simp; refine hK _ _ ?_; clear hK K)
            refine (copyZ_any (HM.out.below (bt HB1.out B_54)) (by omega) (by omega)).mono ?_
            rintro e w_55 ⟨P_55, p_55, d_55, rfl, hz_55, hb_55⟩
            refine ⟨_, rfl, (Grow.of_below hb_55), ?_⟩
            (refine ord_norm (fun K hK => ?_); go_simp; refine hK _ ?_; clear hK K)
            have B_55 := bt B_54 hb_55
            repeat (refine ord_pas (by rfl) (fun K hK => ?_); go_simp; refine hK _ _ (fun w' hw' => (by first | (go_simp; done) | (go_simp; intro hh; cases hh))) ?_; clear hK K)
            (refine ord_call (by rfl) (fun K hK => ?_); go_simp; refine hK _ _ ?_; clear hK K)
            refine (copyInt_any (HA.out.below (bt HB1.out B_55)) (by omega)).mono ?_
            rintro e w_56 ⟨s_56, A_56, n_56, c_56, xs_56, rfl, hs_56, o_56, a_56, v_56, hb_56, l_56⟩
            refine ⟨_, rfl, (Grow.of_below hb_56), ?_⟩
            (refine ord_norm (fun K hK => ?_); go_simp; refine hK _ ?_; clear hK K)
            have B_56 := bt B_55 hb_56
            repeat (refine ord_pas (by rfl) (fun K hK => ?_); go_simp; refine hK _ _ (fun w' hw' => (by first | (go_simp; done) | (go_simp; intro hh; cases hh))) ?_; clear hK K)
            (refine ord_call (by rfl) (fun K hK => ?_); go_simp; refine hK _ _ ?_; clear hK K)
            refine (copyInt_any (HX.out.below (bt HB1.out B_56)) (by omega)).mono ?_
            rintro e w_57 ⟨s_57, A_57, n_57, c_57, xs_57, rfl, hs_57, o_57, a_57, v_57, hb_57, l_57⟩
            refine ⟨_, rfl, (Grow.of_below hb_57), ?_⟩
            (refine ord_norm (fun K hK => ?_); go_simp; refine hK _ ?_; clear hK K)
            have B_57 := bt B_56 hb_57
            repeat (refine ord_pas (by rfl) (fun K hK => ?_); go_simp; refine hK _ _ (fun w' hw' => (by first | (go_simp; done) | (go_simp; intro hh; cases hh))) ?_; clear hK K)
            (refine ord_call (by rfl) (fun K hK => ?_); go_simp; refine hK _ _ ?_; clear hK K)
            refine (homR (K := 42 * N + 1) (s := ra.1) (t := rx.1) ((hz_55.below hb_56).below hb_57) (⟨_, _, _, _, rfl, o_56.rd.below hb_57, a_56, v_56, l_56⟩ : Num w_57 (.slice A_56 n_56 c_56) ra.2 N) (⟨_, _, _, _, rfl, o_57.rd, a_57, v_57, l_57⟩ : Num w_57 (.slice A_57 n_57 c_57) rx.2 N) (by have := hz_55.len.1; have := HM.out.len.1; omega) (by omega) (by omega)).mono ?_
            rintro e w_58 ⟨A_58, n_58, c_58, s_58, rfl, hs_58, o_58, hb_58, l_58⟩
            refine ⟨_, rfl, (Grow.of_below hb_58), ?_⟩
            (refine ord_norm (fun K hK => ?_); go_simp; refine hK _ ?_; clear hK K)
            have B_58 := bt B_57 hb_58
            repeat (refine ord_pas (by rfl) (fun K hK => ?_); go_simp; refine hK _ _ (fun w' hw' => (by first | (go_simp; done) | (go_simp; intro hh; cases hh))) ?_; clear hK K)
            have S1a : CanY (42 * N + 1) w_58 (s_54, (A_54, n_54, c_54)) _ := ⟨hs_54.out, (((o_54.rd.below hb_55).below hb_56).below hb_57).below hb_58, l_54⟩
            have S2a : CanY (42 * N + 1) w_58 (s_58, (A_58, n_58, c_58)) _ := ⟨hs_58.out, o_58.rd, l_58⟩
            have CS := sameIntT_any S1a S2a (by omega)
            rw [zco_map, ← HDD.out] at CS
            have HZ4 := Lib.hid ((((((((HZ41.out.below hb44).below hb_51).below hb_52).below hb_53).below hb_54).below hb_55).below hb_56).below hb_57)
            (refine ord_call (by rfl) (fun K hK => ?_); go_simp; refine hK _ _ ?_; clear hK K)
            refine CS.mono ?_
            rintro e w59 ⟨rfl, hb59⟩
            refine ⟨_, rfl, (Grow.of_below hb59), ?_⟩
            (refine ord_norm (fun K hK => ?_); go_simp; refine hK _ ?_; clear hK K)
            have B59 := bt B_58 hb59
            have HZ5 := Lib.hid ((HZ4.out.below hb_58).below hb59)
            clear CS S1a S2a hz_51 o_52 a_52 v_52 l_52 hb_51 hb_52 o_53 a_53 v_53 l_53 hb_53 hp51 hs_54 o_54 l_54 hb_54 hz_55 hb_55 o_56 a_56 v_56 l_56 hb_56 o_57 a_57 v_57 l_57 hb_57 hs_58 o_58 l_58 hb_58 hb59 HZ4 HZ41 HZ43 HP6 B44 B45 B_51 B_52 B_53 B_54 B_55 B_56 B_57 B_58 hb44
            rcases dd with _ | _
            · repeat (refine ord_pas (by rfl) (fun K hK => ?_); go_simp; refine hK _ _ (fun w' hw' => (by first | (go_simp; done) | (go_simp; intro hh; cases hh))) ?_; clear hK K)
              (refine ord_call (by rfl) (fun K hK => ?_); go_simp; refine hK _ _ ?_; clear hK K)
              refine (copyZ_any HZ5.out.c.inp (by omega) (by omega)).mono ?_
              rintro e w60 ⟨P60, p60, d60, rfl, hz60, hb60⟩
              refine ⟨_, rfl, (Grow.of_below hb60), ?_⟩
              (refine ord_norm (fun K hK => ?_); go_simp; refine hK _ ?_; clear hK K)
              repeat (refine ord_pas (by rfl) (fun K hK => ?_); go_simp; refine hK _ _ (fun w' hw' => (by first | (go_simp; done) | (go_simp; intro hh; cases hh))) ?_; clear hK K)
              (refine ord_call (by rfl) (fun K hK => ?_); go_simp; refine hK _ _ ?_; clear hK K)
              have CD := zdeg_any hz60 (by omega) (by have := hz60.len.1; rw [List.length_map, ← HZ5.out.len] at this; omega)
              rw [zco_map] at CD
              obtain ⟨dq, hdg⟩ : ∃ dq : Int, dq = (ztl (ztr (revl (ztr (ps.map zv)) kk)) : Int) - 1 := ⟨_, rfl⟩
              rw [← hdg] at CD
              have hne : dq ≠ (kk : Int) := by
                intro e
                have e1 : ztl (ztr (revl (ztr (ps.map zv)) kk)) = kk + 1 := by omega
                have e2 : ztl (revl (ztr (ps.map zv)) kk) = kk + 1 := by
                  have h1 := ztl_le (ztr (revl (ztr (ps.map zv)) kk))
                  rw [e1, ztr_len] at h1
                  have h2 := ztl_le (revl (ztr (ps.map zv)) kk)
                  rw [HR1.out] at h2
                  omega
                have h3 := hom_turn (zs := ztr (ps.map zv)) (m := kk) (by rw [ztr_len]; exact HK1.out) e2 (sg ra.1 ra.2) (sg rx.1 rx.2)
                have h4 := HDD.out
                rw [ztr_idem, h3, decide_eq_true rfl] at h4
                cases h4
              clear hdg
              refine CD.mono ?_
              rintro e w61 ⟨rfl, hb61⟩
              refine ⟨_, rfl, (Grow.of_below hb61), ?_⟩
              (refine ord_norm (fun K hK => ?_); go_simp; refine hK _ ?_; clear hK K)
              have B61 := bt (bt B59 hb60) hb61
              have q1 : decide (dq = (kk : Int)) = false := decide_eq_false hne
              have q2 : (dq == (kk : Int)) = false := by simpa using hne
              clear CD hz60 hb60 hb61 B59
              repeat (refine ord_pas (by rfl) (fun K hK => ?_); go_simp; refine hK _ _ (fun w' hw' => (by first | (go_simp; done) | (go_simp; intro hh; cases hh))) ?_; clear hK K)
              refine ord_nil ?_
              go_wp2_with fail
              go_meet
              case rel => exact B61
            · repeat (refine ord_pas (by rfl) (fun K hK => ?_); go_simp; refine hK _ _ (fun w' hw' => (by first | (go_simp; done) | (go_simp; intro hh; cases hh))) ?_; clear hK K)
              (refine ord_act (by rfl) (fun K hK => ?_); go_simp)
              refine hK _ _ ⟨Grow.refl _ _, ?_⟩
              clear hK K
              (refine ord_norm (fun K hK => ?_); go_simp; refine hK _ ?_; clear hK K)
              (refine ord_act (by rfl) (fun K hK => ?_); go_simp)
              refine hK _ _ ⟨Grow.refl _ _, ?_⟩
              clear hK K
              (refine ord_norm (fun K hK => ?_); go_simp; refine hK _ ?_; clear hK K)
              repeat (refine ord_pas (by rfl) (fun K hK => ?_); go_simp; refine hK _ _ (fun w' hw' => (by first | (go_simp; done) | (go_simp; intro hh; cases hh))) ?_; clear hK K)
              refine ord_nil ?_
              go_wp2_with fail
              go_meet
              case rel => exact B59
        case rest =>
          clear B31 HP5
          revert wc
          intro w70 B70
          go_wp2_with fail
          have x0 := (HT.out.1.below B70).1
          have x1 := (HT.out.2.1.below B70).1
          have y0 := At.grow (HT.out.1.below B70)
          have y1 := At.grow (HT.out.2.1.below B70)
          refine wp_region_flt [(0, 0), (0, 4), (2, 2), (1, 1), (4, 2), (1, 3), (1, 5), (1, 6), (1, 7), (0, 8)] (by kernel_rfl) (by kernel_rfl) ?_
          repeat (refine flt_pas (by rfl) (fun K hK => ?_); go_simp; refine hK _ _ (fun w' hw' => (by first | (go_simp; done) | (go_simp; intro hh; cases hh))) ?_; clear hK K)
          refine flt_lit (k := .i64) (t := 3) (n := 2) w70.heap.size [0, 1] (by rfl) rfl (fun w1 => (by go_simp; rfl)) rfl (by omega) (Nat.le_refl _) ?_
          refine flt_call (by rfl) (fun w71 hw71 K hK => ?_); go_simp; refine hK _ _ ?_; clear hK K
          clear x0 x1 y0 y1
          have B71 := bt B70 (bt (below_drewN w70 1) hw71.below)
          refine (copyZ_any (HM2.out.below (bt HB1.out B71)) (by omega) (by omega)).mono ?_
          rintro e w72 ⟨P72, p72, d72, rfl, hz72, hb72⟩
          refine ⟨_, rfl, Grow.of_below hb72, ?_⟩
          (refine flt_norm (fun K hK => ?_); go_simp; refine hK _ ?_; clear hK K)
          refine flt_land (by rfl) (fun v_l w73 hw73 hF => ?_)
          obtain ⟨A_l, rfl, o_l⟩ := hF
          (refine flt_norm (fun K hK => ?_); go_simp; refine hK _ ?_; clear hK K)
          have B73 := bt (bt B71 hb72) hw73.below
          refine flt_call (by rfl) (fun w74 hw74 K hK => ?_); go_simp; refine hK _ _ ?_; clear hK K
          have B74 := bt B73 hw74.below
          refine (poly_any (xs := [0, 1]) (o_l.below hw74.below).rd (by decide) (by simp)).mono ?_
          rintro e w75 ⟨P75, p75, d75, rfl, hz75, hb75⟩
          refine ⟨_, rfl, Grow.of_below hb75, ?_⟩
          (refine flt_norm (fun K hK => ?_); go_simp; refine hK _ ?_; clear hK K)
          refine flt_call (by rfl) (fun w76 hw76 K hK => ?_); go_simp; refine hK _ _ ?_; clear hK K
          have B76 := bt (bt B74 hb75) hw76.below
          refine (copyInt_any (HA.out.below (bt HB1.out B76)) (by omega)).mono ?_
          rintro e w77 ⟨s_77, A_77, n_77, c_77, xs_77, rfl, hs_77, o_77, a_77, v_77, hb_77, l_77⟩
          refine ⟨_, rfl, Grow.of_below hb_77, ?_⟩
          (refine flt_norm (fun K hK => ?_); go_simp; refine hK _ ?_; clear hK K)
          refine flt_call (by rfl) (fun w78 hw78 K hK => ?_); go_simp; refine hK _ _ ?_; clear hK K
          have B78 := bt (bt B76 hb_77) hw78.below
          have C := shiftR (K := 41 * N + 41) (L := 1) (M := N) (t := ra.1) ((((hz75.below hw76.below).below hb_77).below hw78.below).c.inp) (⟨_, _, _, _, rfl, o_77.rd.below hw78.below, a_77, v_77, l_77⟩ : Num w78 (.slice A_77 n_77 c_77) ra.2 N) (by omega) (by rw [hz75.len]; simp) (by omega) (by omega)
          rw [zco_map, show ztr (List.map (fun (x : Nat) => (x : Int)) [0, 1]) = [0, 1] from rfl, shl1_x] at C
          refine C.mono ?_
          rintro e w79 ⟨P79, p79, d79, rfl, hz79, hb79⟩
          refine ⟨_, rfl, Grow.of_below hb79, ?_⟩
          (refine flt_norm (fun K hK => ?_); go_simp; refine hK _ ?_; clear hK K)
          refine flt_call (by rfl) (fun w80 hw80 K hK => ?_); go_simp; refine hK _ _ ?_; clear hK K
          have B80 := bt (bt B78 hb79) hw80.below
          have BZ := bt hw73.below (bt hw74.below (bt hb75 (bt hw76.below (bt hb_77 (bt hw78.below (bt hb79 hw80.below))))))
          have E6 : ztr (cpl (ztr (qs.map zv)) [sg ra.1 ra.2, 1] (backz (ztr (qs.map zv)).length (ztr (qs.map zv)).length)) = shl1 (ztr (qs.map zv)) (sg ra.1 ra.2) := by unfold shl1; rw [ztr_line]
          have C2 := compR (K := 1641 * N + 1681) (hz72.below BZ) (hz79.below hw80.below).c.inp (by have := hz72.len.1; have := HM2.out.len.1; omega) (by rw [hz79.len]; simp) (by omega) (by omega)
          rw [zco_map, E6] at C2
          refine C2.mono ?_
          rintro e w81 ⟨P81, p81, d81, rfl, hz81, hb81⟩
          refine ⟨_, rfl, Grow.of_below hb81, ?_⟩
          (refine flt_norm (fun K hK => ?_); go_simp; refine hK _ ?_; clear hK K)
          repeat (refine flt_pas (by rfl) (fun K hK => ?_); go_simp; refine hK _ _ (fun w' hw' => (by first | (go_simp; done) | (go_simp; intro hh; cases hh))) ?_; clear hK K)
          refine flt_nil ?_
          have B81 := bt B80 hb81
          have hp81 : p81 ≤ 12 := by have h1 := shl1_len (ztr (qs.map zv)) (sg ra.1 ra.2); have h2 := ztr_le (qs.map zv); rw [List.length_map, ← HM2.out.len.1] at h2; rw [hz81.len]; omega
          have HZ81 := Lib.hid hz81
          clear C C2 E6 BZ hw71 hz72 hb72 hw73 o_l hw74 hz75 hb75 hw76 o_77 a_77 v_77 hb_77 l_77 hw78 hz79 hb79 hw80 hz81 hb81 B70 B71 B73 B74 B76 B78 B80
          have B82 := bt B81 (below_drewN w81 1)
          go_wp2_with fail
          have x0 := (HT.out.1.below B81).1
          have x1 := (HT.out.2.1.below B81).1
          have y0 := At.grow (HT.out.1.below B81)
          have y1 := At.grow (HT.out.2.1.below B81)
          refine wp_region_grow none [(true, 0), (true, 1), (true, 3), (false, 2), (false, 4), (false, 5), (false, 6), (true, 7)] (by kernel_rfl) (by kernel_rfl) ?_
          repeat (refine ord_pas (by rfl) (fun K hK => ?_); go_simp; refine hK _ _ (fun w' hw' => (by first | (go_simp; done) | (go_simp; intro hh; cases hh))) ?_; clear hK K)
          clear x0 x1 y0 y1
          (refine ord_call (by rfl) (fun K hK => ?_); go_simp; refine hK _ _ ?_; clear hK K)
          refine (copyZ_any (HM2.out.below (bt HB1.out B82)) (by omega) (by omega)).mono ?_
          rintro e w_81 ⟨P_81, p_81, d_81, rfl, hz_81, hb_81⟩
          refine ⟨_, rfl, (Grow.of_below hb_81), ?_⟩
          (refine ord_norm (fun K hK => ?_); go_simp; refine hK _ ?_; clear hK K)
          have B_81 := bt B82 hb_81
          repeat (refine ord_pas (by rfl) (fun K hK => ?_); go_simp; refine hK _ _ (fun w' hw' => (by first | (go_simp; done) | (go_simp; intro hh; cases hh))) ?_; clear hK K)
          (refine ord_call (by rfl) (fun K hK => ?_); go_simp; refine hK _ _ ?_; clear hK K)
          refine (copyInt_any (HA.out.below (bt HB1.out B_81)) (by omega)).mono ?_
          rintro e w_82 ⟨s_82, A_82, n_82, c_82, xs_82, rfl, hs_82, o_82, a_82, v_82, hb_82, l_82⟩
          refine ⟨_, rfl, (Grow.of_below hb_82), ?_⟩
          (refine ord_norm (fun K hK => ?_); go_simp; refine hK _ ?_; clear hK K)
          have B_82 := bt B_81 hb_82
          repeat (refine ord_pas (by rfl) (fun K hK => ?_); go_simp; refine hK _ _ (fun w' hw' => (by first | (go_simp; done) | (go_simp; intro hh; cases hh))) ?_; clear hK K)
          (refine ord_call (by rfl) (fun K hK => ?_); go_simp; refine hK _ _ ?_; clear hK K)
          refine (shiftR (K := 41 * N + 41) (M := N) (t := ra.1) (hz_81.below hb_82) (⟨_, _, _, _, rfl, o_82.rd, a_82, v_82, l_82⟩ : Num w_82 (.slice A_82 n_82 c_82) ra.2 N) (by omega) (by have := hz_81.len.1; have := HM2.out.len.1; omega) (by omega) (by omega)).mono ?_
          rintro e w_83 ⟨P_83, p_83, d_83, rfl, hz_83, hb_83⟩
          refine ⟨_, rfl, (Grow.of_below hb_83), ?_⟩
          (refine ord_norm (fun K hK => ?_); go_simp; refine hK _ ?_; clear hK K)
          have B_83 := bt B_82 hb_83
          repeat (refine ord_pas (by rfl) (fun K hK => ?_); go_simp; refine hK _ _ (fun w' hw' => (by first | (go_simp; done) | (go_simp; intro hh; cases hh))) ?_; clear hK K)
          (refine ord_call (by rfl) (fun K hK => ?_); go_simp; refine hK _ _ ?_; clear hK K)
          refine (sameZ_yes (HZ81.out.below (bt (below_drewN w81 1) (bt hb_81 (bt hb_82 hb_83)))).c hz_83.c (by omega) (by omega)).mono ?_
          rintro e w84 ⟨rfl, hb84⟩
          refine ⟨_, rfl, (Grow.of_below hb84), ?_⟩
          (refine ord_norm (fun K hK => ?_); go_simp; refine hK _ ?_; clear hK K)
          have B84 := bt B_83 hb84
          repeat (refine ord_pas (by rfl) (fun K hK => ?_); go_simp; refine hK _ _ (fun w' hw' => (by first | (go_simp; done) | (go_simp; intro hh; cases hh))) ?_; clear hK K)
          refine ord_nil ?_
          clear HZ81 hz_81 hb_81 o_82 a_82 v_82 hb_82 l_82 hz_83 hb_83 hb84 B81 B82 B_81 B_82 B_83 hp81
          go_wp2_with fail
          have x2 := (HT.out.2.2.1.below B84).1
          have x3 := (HT.out.2.2.2.below B84).1
          have y2 := At.growB (HT.out.2.2.1.below B84)
          have y3 := At.growB (HT.out.2.2.2.below B84)
          refine wp_region_fltR (KB w84.heap.size) (KB.refl _) (KB.trans _) (KB.of_grow _) [(0, 0), (0, 2), (2, 5), (1, 1), (1, 3), (1, 4), (4, 5), (3, 6)] (by kernel_rfl) (by kernel_rfl) ?_
          repeat (refine flt_pas (by rfl) (fun K hK => ?_); go_simp; refine hK _ _ (fun w' hw' => (by first | (go_simp; done) | (go_simp; intro hh; cases hh))) ?_; clear hK K)
          refine flt_alloc w84.heap.size 47 #[.bool false, .slice none 0 0] (by rfl) rfl (fun w1 => (by go_simp)) (Nat.le_refl _) ?_
          refine flt_call (by rfl) (fun w85 hw85 K hK => ?_); go_simp; refine hK _ _ ?_; clear hK K
          clear x2 x3 y2 y3
          have D85 := bt (below_drewN w84 1) hw85.below
          have B85 := bt B84 D85
          refine (copyZ_any (HM2.out.below (bt HB1.out B85)) (by omega) (by omega)).mono ?_
          rintro e w86 ⟨P86, p86, d86, rfl, hz86, hb86⟩
          refine ⟨_, rfl, Grow.of_below hb86, ?_⟩
          (refine flt_norm (fun K hK => ?_); go_simp; refine hK _ ?_; clear hK K)
          refine flt_call (by rfl) (fun w87 hw87 K hK => ?_); go_simp; refine hK _ _ ?_; clear hK K
          have B87 := bt B85 (bt hb86 hw87.below)
          refine (copyInt_any (HX.out.below (bt HB1.out B87)) (by omega)).mono ?_
          rintro e w88 ⟨s_88, A_88, n_88, c_88, xs_88, rfl, hs_88, o_88, a_88, v_88, hb_88, l_88⟩
          refine ⟨_, rfl, Grow.of_below hb_88, ?_⟩
          (refine flt_norm (fun K hK => ?_); go_simp; refine hK _ ?_; clear hK K)
          refine flt_call (by rfl) (fun w89 hw89 K hK => ?_); go_simp; refine hK _ _ ?_; clear hK K
          refine (atR (N := 12) (K := 13 * N + 1) (t := rx.1) (((hz86.below hw87.below).below hb_88).below hw89.below) (⟨_, _, _, _, rfl, o_88.rd.below hw89.below, a_88, v_88, l_88⟩ : Num w89 (.slice A_88 n_88 c_88) rx.2 N) (by have := hz86.len.1; have := HM2.out.len.1; omega) (by omega) (by omega) (by omega) (by omega)).mono ?_
          rintro e w90 ⟨A_90, n_90, c_90, s_90, rfl, hs_90, o_90, hb_90, l_90⟩
          refine ⟨_, rfl, Grow.of_below hb_90, ?_⟩
          (refine flt_norm (fun K hK => ?_); go_simp; refine hK _ ?_; clear hK K)
          refine flt_land (by rfl) (fun v_z w91 hw91 hF => ?_)
          obtain ⟨b_z, rfl, hB_z, hc_z⟩ := hF
          (refine flt_norm (fun K hK => ?_); go_simp; refine hK _ ?_; clear hK K)
          obtain ⟨cz1, cz2, cz3⟩ := cel_of hc_z (j := 0) rfl
          obtain ⟨cz4, cz5, cz6⟩ := cel_of hc_z (j := 1) rfl
          (refine flt_actX (by rfl) (fun K hK => ?_); go_simp)
          refine hK _ _ ⟨KB.set2 hB_z, ?_⟩
          clear hK K
          (refine flt_norm (fun K hK => ?_); go_simp; refine hK _ ?_; clear hK K)
          refine flt_nil ?_
          obtain ⟨wu, hwu⟩ : ∃ wu : World, wu = (w91.setCell ⟨b_z, 0, none⟩ (.bool s_90)).setCell ⟨b_z, 1, none⟩ (.slice A_90 n_90 c_90) := ⟨_, rfl⟩
          rw [← hwu]
          have HU : Hid (Below w1.heap.size w1 wu ∧ At wu ⟨b_z, 0, none⟩ (.bool s_90) ∧ At wu ⟨b_z, 1, none⟩ (.slice A_90 n_90 c_90) ∧ Rd .u64 wu A_90 n_90 c_90 (dg W (ev (qs.map zv) (sg rx.1 rx.2)).natAbs)) := by
            rw [hwu]
            have hb : BoxT 47 b_z _ := ⟨_, _, hc_z⟩
            have k1 := bt D85 (bt hb86 (bt hw87.below (bt hb_88 (bt hw89.below (bt hb_90 hw91.below)))))
            exact ⟨bt B84 ((k1.setCell (p := ⟨b_z, 0, none⟩) hB_z _).setCell (p := ⟨b_z, 1, none⟩) hB_z _), Cel.at ((Cel.put ⟨cz1, cz2, cz3⟩).set (by simp)), Cel.at ((Cel.set ⟨cz4, cz5, cz6⟩ (by simp)).put), (((o_90.below hw91.below).set_ty (p := ⟨b_z, 0, none⟩) hb (by decide)).set_ty (p := ⟨b_z, 1, none⟩) hb.set (by decide)).rd⟩
          clear cz1 cz2 cz3 cz4 cz5 cz6 hwu hc_z hB_z D85 hw85 hz86 hb86 hw87 o_88 a_88 v_88 hb_88 l_88 hw89 o_90 hb_90 hw91 B84 B85 B87
          go_upto_if 186 with fail
          have hmc : m ≤ c := HM.out.len.2
          go_cut [0] from 184 to 188 (fun v wx => ∃ m8, v = .slice A m8 c ∧ m8 = min m 8 ∧ Below wu.heap.size wu wx)
          case first =>
            by_cases hlt : 8 < m
            · have d1 : decide ((8 : Int) < (m : Int)) = true := decide_eq_true (by omega)
              have d2 : (8 : Int) ≤ (c : Int) := by omega
              go_wp2_with fail
              go_meet
              case rel => exact ⟨8, rfl, by omega, Below.refl _ _⟩
            · have d1 : decide ((8 : Int) < (m : Int)) = false := decide_eq_false (by omega)
              go_wp2_with fail
              go_meet
              case rel => exact ⟨m, rfl, by omega, Below.refl _ _⟩
          case rest =>
            revert wc
            intro w92 hcut
            obtain ⟨m8, rfl, hm8, B92⟩ := hcut
            have HM8 : Hid (ZPI N w (.slice A m8 c) (ps.take m8)) := HM.out.take (by omega)
            have hm8' : m8 ≤ 8 := by omega
            clear hm8 hmc HM
            generalize ps.take m8 = ps8 at *
            have B93 := bt HU.out.1 B92
            have B94 := bt B93 (below_drewN w92 1)
            have T0 := HU.out.2.1.below B92
            have T1 := HU.out.2.2.1.below B92
            have HRD := Lib.hid (HU.out.2.2.2.below (bt B92 (below_drewN w92 1)))
            go_wp2_with fail
            have x2 := (HT.out.2.2.1.below B93).1
            have x3 := (HT.out.2.2.2.below B93).1
            have y2 := At.grow (HT.out.2.2.1.below B93)
            have y3 := At.grow (HT.out.2.2.2.below B93)
            have x4 := T0.1
            have x5 := T1.1
            have y4 := At.grow T0
            have y5 := At.grow T1
            refine wp_region_grow none [(true, 0), (true, 2), (true, 5), (true, 8), (true, 10), (false, 1), (false, 3), (false, 4), (false, 6), (false, 7), (false, 9), (false, 11), (false, 12), (true, 13)] (by kernel_rfl) (by kernel_rfl) ?_
            repeat (refine ord_pas (by rfl) (fun K hK => ?_); go_simp; refine hK _ _ (fun w' hw' => (by first | (go_simp; done) | (go_simp; intro hh; cases hh))) ?_; clear hK K)
            clear x2 x3 y2 y3 x4 x5 y4 y5 T0 T1
            (refine ord_call (by rfl) (fun K hK => ?_); go_simp; refine hK _ _ ?_; clear hK K)
            refine (copyZ_any (HM8.out.below (bt HB1.out B94)) (by omega) (by omega)).mono ?_
            rintro e w_91 ⟨P_91, p_91, d_91, rfl, hz_91, hb_91⟩
            refine ⟨_, rfl, (Grow.of_below hb_91), ?_⟩
            (refine ord_norm (fun K hK => ?_); go_simp; refine hK _ ?_; clear hK K)
            have B_91 := bt B94 hb_91
            repeat (refine ord_pas (by rfl) (fun K hK => ?_); go_simp; refine hK _ _ (fun w' hw' => (by first | (go_simp; done) | (go_simp; intro hh; cases hh))) ?_; clear hK K)
            (refine ord_call (by rfl) (fun K hK => ?_); go_simp; refine hK _ _ ?_; clear hK K)
            refine (copyZ_any (HM2.out.below (bt HB1.out B_91)) (by omega) (by omega)).mono ?_
            rintro e w_92 ⟨P_92, p_92, d_92, rfl, hz_92, hb_92⟩
            refine ⟨_, rfl, (Grow.of_below hb_92), ?_⟩
            (refine ord_norm (fun K hK => ?_); go_simp; refine hK _ ?_; clear hK K)
            have B_92 := bt B_91 hb_92
            repeat (refine ord_pas (by rfl) (fun K hK => ?_); go_simp; refine hK _ _ (fun w' hw' => (by first | (go_simp; done) | (go_simp; intro hh; cases hh))) ?_; clear hK K)
            have hp92 : p_92 ≤ 12 := by have := hz_92.len.1; have := HM2.out.len.1; omega
            have hp91 : p_91 ≤ 8 := by have := hz_91.len.1; have := HM8.out.len.1; omega
            (refine ord_call (by rfl) (fun K hK => ?_); go_simp; refine hK _ _ ?_; clear hK K)
            refine (compR (K := 41 * N + 41) (hz_91.below hb_92) hz_92 (by omega) (by omega) (by omega) (by omega)).mono ?_
            rintro e w_93 ⟨P_93, p_93, d_93, rfl, hz_93, hb_93⟩
            refine ⟨_, rfl, (Grow.of_below hb_93), ?_⟩
            (refine ord_norm (fun K hK => ?_); go_simp; refine hK _ ?_; clear hK K)
            have B_93 := bt B_92 hb_93
            repeat (refine ord_pas (by rfl) (fun K hK => ?_); go_simp; refine hK _ _ (fun w' hw' => (by first | (go_simp; done) | (go_simp; intro hh; cases hh))) ?_; clear hK K)
            have hp93 : p_93 ≤ 104 := by
              rw [hz_93.len]
              refine Nat.le_trans (ztr_le _) ?_
              refine Nat.le_trans (cpl_len _ _ _ _ (backz_length _ _)) ?_
              have h2 := ztr_le (ps8.map zv)
              rw [List.length_map, ← HM8.out.len.1] at h2
              have h3 := HM2.out.len.1
              rw [List.length_map, ← h3]
              exact Nat.le_trans (Nat.mul_le_mul (show _ ≤ 8 by omega) (show m2 + 1 ≤ 13 by omega)) (by omega)
            (refine ord_call (by rfl) (fun K hK => ?_); go_simp; refine hK _ _ ?_; clear hK K)
            refine (copyInt_any (HX.out.below (bt HB1.out B_93)) (by omega)).mono ?_
            rintro e w_94 ⟨s_94, A_94, n_94, c_94, xs_94, rfl, hs_94, o_94, a_94, v_94, hb_94, l_94⟩
            refine ⟨_, rfl, (Grow.of_below hb_94), ?_⟩
            (refine ord_norm (fun K hK => ?_); go_simp; refine hK _ ?_; clear hK K)
            have B_94 := bt B_93 hb_94
            repeat (refine ord_pas (by rfl) (fun K hK => ?_); go_simp; refine hK _ _ (fun w' hw' => (by first | (go_simp; done) | (go_simp; intro hh; cases hh))) ?_; clear hK K)
            (refine ord_call (by rfl) (fun K hK => ?_); go_simp; refine hK _ _ ?_; clear hK K)
            refine (atR (N := 104) (K := 145 * N + 42) (t := rx.1) (hz_93.below hb_94).c.inp (⟨_, _, _, _, rfl, o_94.rd, a_94, v_94, l_94⟩ : Num w_94 (.slice A_94 n_94 c_94) rx.2 N) hp93 (by omega) (by omega) (by omega) (by omega)).mono ?_
            rintro e w_95 ⟨A_95, n_95, c_95, s_95, rfl, hs_95, o_95, hb_95, l_95⟩
            refine ⟨_, rfl, (Grow.of_below hb_95), ?_⟩
            (refine ord_norm (fun K hK => ?_); go_simp; refine hK _ ?_; clear hK K)
            have B_95 := bt B_94 hb_95
            repeat (refine ord_pas (by rfl) (fun K hK => ?_); go_simp; refine hK _ _ (fun w' hw' => (by first | (go_simp; done) | (go_simp; intro hh; cases hh))) ?_; clear hK K)
            (refine ord_call (by rfl) (fun K hK => ?_); go_simp; refine hK _ _ ?_; clear hK K)
            refine (copyZ_any (HM8.out.below (bt HB1.out B_95)) (by omega) (by omega)).mono ?_
            rintro e w_96 ⟨P_96, p_96, d_96, rfl, hz_96, hb_96⟩
            refine ⟨_, rfl, (Grow.of_below hb_96), ?_⟩
            (refine ord_norm (fun K hK => ?_); go_simp; refine hK _ ?_; clear hK K)
            have B_96 := bt B_95 hb_96
            repeat (refine ord_pas (by rfl) (fun K hK => ?_); go_simp; refine hK _ _ (fun w' hw' => (by first | (go_simp; done) | (go_simp; intro hh; cases hh))) ?_; clear hK K)
            have BY := bt hb_91 (bt hb_92 (bt hb_93 (bt hb_94 (bt hb_95 hb_96))))
            (refine ord_call (by rfl) (fun K hK => ?_); go_simp; refine hK _ _ ?_; clear hK K)
            refine (atR (N := 8) (K := 105 * N + 9) (t := s_90) hz_96 ((⟨_, _, _, _, rfl, HRD.out.below BY, dg_all W_gt _, dg_val W_gt _, l_90⟩ : Num w_96 (.slice A_90 n_90 c_90) _ (13 * N + 1))) (by have := hz_96.len.1; have := HM8.out.len.1; omega) (by omega) (by omega) (by omega) (by omega)).mono ?_
            rintro e w_97 ⟨A_97, n_97, c_97, s_97, rfl, hs_97, o_97, hb_97, l_97⟩
            refine ⟨_, rfl, (Grow.of_below hb_97), ?_⟩
            (refine ord_norm (fun K hK => ?_); go_simp; refine hK _ ?_; clear hK K)
            have B_97 := bt B_96 hb_97
            repeat (refine ord_pas (by rfl) (fun K hK => ?_); go_simp; refine hK _ _ (fun w' hw' => (by first | (go_simp; done) | (go_simp; intro hh; cases hh))) ?_; clear hK K)
            have E7 : ev (((ztr (cpl (ztr (ps8.map zv)) (qs.map zv) (backz (ztr (ps8.map zv)).length (ztr (ps8.map zv)).length))).map zco).map zv) (sg rx.1 rx.2) = ev (ps8.map zv) (sg s_90 (ev (qs.map zv) (sg rx.1 rx.2)).natAbs) := by rw [zco_map, sg_of hs_90.out, ev_comp, ev_ztr]
            have S1a : CanY (145 * N + 42) w_97 (s_95, (A_95, n_95, c_95)) _ := ⟨hs_95.out, (o_95.rd.below hb_96).below hb_97, l_95⟩
            have S2a : CanY (105 * N + 9) w_97 (s_97, (A_97, n_97, c_97)) _ := ⟨hs_97.out, o_97.rd, l_97⟩
            have CS := sameIntT_any S1a S2a (by omega)
            rw [decide_eq_true E7] at CS
            (refine ord_call (by rfl) (fun K hK => ?_); go_simp; refine hK _ _ ?_; clear hK K)
            refine CS.mono ?_
            rintro e w98 ⟨rfl, hb98⟩
            refine ⟨_, rfl, (Grow.of_below hb98), ?_⟩
            (refine ord_norm (fun K hK => ?_); go_simp; refine hK _ ?_; clear hK K)
            have HF := Lib.hid (bt HB1.out (bt B_97 hb98))
            clear CS S1a S2a E7 BY HRD hz_91 hz_92 hz_93 hp91 hp92 hp93 o_94 a_94 v_94 l_94 hs_95 o_95 l_95 hz_96 hs_97 o_97 l_97 hb_91 hb_92 hb_93 hb_94 hb_95 hb_96 hb_97 hb98 B92 B93 B94 B_91 B_92 B_93 B_94 B_95 B_96 B_97 HU
            repeat (refine ord_pas (by rfl) (fun K hK => ?_); go_simp; refine hK _ _ (fun w' hw' => (by first | (go_simp; done) | (go_simp; intro hh; cases hh))) ?_; clear hK K)
            refine ord_nil ?_
            go_wp2
            go_ret
            exact ⟨rfl, HF.out⟩
end Go.Proofs.Ytphofjinncbaaaa
