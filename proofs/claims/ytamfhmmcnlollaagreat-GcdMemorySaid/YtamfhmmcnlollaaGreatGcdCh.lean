/-
  gcd.factor, Extended, Sqrt, Crt once more: their answers were made one behind the other.
-/
import Derived.Test.YtamfhmmcnlollaaGreatGcdEx
import Derived.Test.YtamfhmmcnlollaaGreatApart
namespace Go.Proofs.YtamfhmmcnlollaaGreat
open Go.RowKit
set_option linter.unusedVariables false

/-- what factor gives, the second number made behind the first -/
def GFacC (w : World) (a m L : Nat) (e : Ending) (w' : World) : Prop :=
  ∃ x, (x < m / Nat.gcd a m ∧ Cong m a (Nat.gcd a m) x) ∧ ∃ (mid : Nat) (A1 : Option Addr) (n1 c1 : Nat) (A2 : Option Addr) (n2 c2 : Nat), e = .returned (.tuple #[.slice A1 n1 c1, .slice A2 n2 c2]) ∧
    Own .u64 41 w.heap.size w' A1 n1 c1 (dg W (Nat.gcd a m)) ∧ Own .u64 41 mid w' A2 n2 c2 (dg W x) ∧ Lies A1 w.heap.size mid ∧ w.heap.size ≤ mid ∧ mid ≤ w'.heap.size ∧ Below w.heap.size w w' ∧ n1 ≤ L ∧ n2 ≤ L
set_option maxHeartbeats 2000000 in
theorem factor_ch {v u : Value} {a m L K : Nat} {w : World} (h : Num w v a L) (h' : Num w u m K) (hm : 0 < m) (hL : L ≤ 268435456) (hK : K ≤ 268435456) : Calls Tryz.prog 79 #[v, u] w (GFacC w a m K) := by
  have H := Lib.hid h
  have H' := Lib.hid h'
  have HM := Lib.hid hm
  have h1W : Hid (1 < W) := W_gt
  obtain ⟨_, _, _, _, rfl, _⟩ := id h
  obtain ⟨_, _, _, _, rfl, _⟩ := id h'
  clear h h' hm
  go_enter Tryz.func79, Tryz.ntmps79
  go_wp2_with fail
  refine (nnorm_any H'.out (by omega)).mono ?_
  rintro e w1 ⟨A_r, n_r, c_r, rfl, o_r, hb1, l_r⟩
  go_wp2_with fail
  refine (gmod_any (H.out.below hb1) (H'.out.below hb1) HM.out (by omega) (by omega)).mono ?_
  rintro e w2 ⟨A_q, n_q, c_q, rfl, o_q, hb2, l_q⟩
  go_wp2_with fail
  refine (nof_any rfl h1W.out).mono ?_
  rintro e w3 ⟨A_o, n_o, c_o, rfl, o_o, hb3, l_o⟩
  go_wp2_with fail
  refine (gmod_any (o_o.num l_o) (((H'.out.below hb1).below hb2).below hb3) HM.out (by omega) (by omega)).mono ?_
  rintro e w4 ⟨A_s, n_s, c_s, rfl, o_s, hb4, l_s⟩
  have HS := Lib.hid (And.intro (((o_r.below hb2).below hb3).below hb4) (And.intro (((o_q.mono hb1.size).below hb3).below hb4) (And.intro (o_s.mono (bt (bt hb1 hb2) hb3).size) (bt (bt (bt hb1 hb2) hb3) hb4))))
  clear o_r o_q o_o o_s
  go_wp2_with fail
  go_loopw [6, 7, 8, 9] (fun r0 r1 s0 s1 wr => ∃ (A1 A2 A3 A4 : Option Addr) (n1 c1 n2 c2 n3 c3 n4 c4 x y s t : Nat), Hid (Own .u64 41 w.heap.size wr A1 n1 c1 (dg W x) ∧ Own .u64 41 w.heap.size wr A2 n2 c2 (dg W y) ∧ Own .u64 41 w.heap.size wr A3 n3 c3 (dg W s) ∧ Own .u64 41 w.heap.size wr A4 n4 c4 (dg W t) ∧ Below w.heap.size w wr) ∧
    Hid (Nat.gcd x y = Nat.gcd a m ∧ Cong m a x s ∧ Cong m a y t) ∧ n1 ≤ K ∧ n2 ≤ K ∧ n3 ≤ K ∧ n4 ≤ K ∧ r0 = .slice A1 n1 c1 ∧ r1 = .slice A2 n2 c2 ∧ s0 = .slice A3 n3 c3 ∧ s1 = .slice A4 n4 c4) (fun r0 r1 s0 s1 wr => mval wr r1)
  case atStart => exact ⟨_, _, _, _, _, _, _, _, _, _, _, _, _, _, _, _, ⟨HS.out.1, HS.out.2.1, Own.nildg, HS.out.2.2⟩, ⟨by rw [Nat.gcd_comm m, ← Nat.gcd_rec, Nat.gcd_comm], Cong.start0 _ _, Cong.start1 _ _⟩, by omega, by omega, by omega, by omega, rfl, rfl, rfl, rfl⟩
  case round =>
    obtain ⟨A1, A2, A3, A4, n1, c1, n2, c2, n3, c3, n4, c4, x, y, s, t, hI, hG, ln1, ln2, ln3, ln4, rfl, rfl, rfl, rfl⟩ := hrel
    obtain ⟨wz, hwz⟩ : ∃ wz : World, wz = wr := ⟨_, rfl⟩
    have HZ := Lib.hid hwz
    clear hwz
    have N1 := Lib.hid (hI.out.1.num (L := K) ln1)
    have N2 := Lib.hid (hI.out.2.1.num (L := K) ln2)
    have N3 := Lib.hid (hI.out.2.2.1.num (L := K) ln3)
    have N4 := Lib.hid (hI.out.2.2.2.1.num (L := K) ln4)
    have NM := Lib.hid (H'.out.below hI.out.2.2.2.2)
    rcases Nat.eq_zero_or_pos y with hy | hy
    · obtain rfl := len_zero hI.out.2.1 hy
      have hx : x = Nat.gcd a m := by rw [← hG.out.1, hy, Nat.gcd_zero_right]
      have hgp : 0 < x := by rw [hx]; exact Nat.gcd_pos_of_pos_right a HM.out
      have hlast := hG.out.2.1.last hx HM.out
      have hmg : 0 < m / x := by omega
      have HX := Lib.hid (And.intro hgp (And.intro hmg hlast))
      have HXE := Lib.hid hx
      clear hy hx hgp hmg hlast
      go_wp2_with fail
      refine (gquo_any NM.out N1.out HX.out.1 (by omega) (by omega)).mono ?_
      rintro e w1 ⟨A_d, n_d, c_d, rfl, o_d, hb1, l_d⟩
      go_wp2_with fail
      refine (gmod_any (N3.out.below hb1) (o_d.num l_d) HX.out.2.1 (by omega) (by omega)).mono ?_
      rintro e w2 ⟨A_z, n_z, c_z, rfl, o_z, hb2, l_z⟩
      go_wp2
      go_ret2
      refine ⟨s % (m / x), ?_, ?_⟩
      · rw [← HXE.out]; exact HX.out.2.2
      · rw [← HXE.out]
        exact ⟨_, _, _, _, _, _, _, rfl, hI.out.1.below (bt hb1 hb2), o_z, hI.out.1.lies.mono (Nat.le_refl _) hb1.size, Nat.le_trans hI.out.2.2.2.2.size hb1.size, hb2.size, bt hI.out.2.2.2.2 (bt hb1 hb2), ln1, l_z⟩
    · have hp := len_pos hI.out.2.1 hy
      have HY := Lib.hid hy
      have HML := Lib.hid (Nat.le_of_lt (Nat.mod_lt (x / y * t) HM.out))
      clear hy
      go_wp2_with fail
      refine (quo_any N1.out N2.out HY.out (by omega) (by omega)).mono ?_
      rintro e w1 ⟨A_q, n_q, c_q, A_r, n_r, c_r, rfl, o_q, o_r, hb1, l_q, l_r⟩
      go_wp2_with fail
      refine (mul_any (o_q.num l_q) (N4.out.below hb1) (by omega) (by omega)).mono ?_
      rintro e w2 ⟨A_p, n_p, c_p, rfl, o_p, hb2, l_p⟩
      go_wp2_with fail
      refine (gmod_any (o_p.num l_p) ((NM.out.below hb1).below hb2) HM.out (by omega) (by omega)).mono ?_
      rintro e w3 ⟨A_qs, n_qs, c_qs, rfl, o_qs, hb3, l_qs⟩
      go_wp2_with fail
      refine (gsub_any (((NM.out.below hb1).below hb2).below hb3) (o_qs.num l_qs) HML.out (by omega) (by omega)).mono ?_
      rintro e w4 ⟨A_d, n_d, c_d, rfl, o_d, hb4, l_d⟩
      go_wp2_with fail
      refine (nadd_any ((((N3.out.below hb1).below hb2).below hb3).below hb4) (o_d.num l_d) (by omega) (by omega)).mono ?_
      rintro e w5 ⟨A_e, n_e, c_e, rfl, o_e, hb5, l_e⟩
      go_wp2_with fail
      refine (gmod_any (o_e.num l_e) (((((NM.out.below hb1).below hb2).below hb3).below hb4).below hb5) HM.out (by omega) (by omega)).mono ?_
      rintro e w6 ⟨A_z, n_z, c_z, rfl, o_z, hb6, l_z⟩
      have NR : Hid (mval w6 (.slice A_r n_r c_r) < mval wr (.slice A2 n2 c2)) := by show _ < _; rw [mval_num ((((((o_r.num l_r).below hb2).below hb3).below hb4).below hb5).below hb6), mval_num N2.out]; exact Nat.mod_lt _ HY.out
      have HW := Lib.hid (And.intro (hI.out.2.1.below (bt (bt (bt (bt (bt hb1 hb2) hb3) hb4) hb5) hb6)) (And.intro ((((((o_r.below hb2).below hb3).below hb4).below hb5).below hb6).mono hI.out.2.2.2.2.size) (And.intro (hI.out.2.2.2.1.below (bt (bt (bt (bt (bt hb1 hb2) hb3) hb4) hb5) hb6)) (And.intro ((o_z.mono (bt (bt (bt (bt hb1 hb2) hb3) hb4) hb5).size).mono hI.out.2.2.2.2.size) (bt hI.out.2.2.2.2 (bt (bt (bt (bt (bt hb1 hb2) hb3) hb4) hb5) hb6))))))
      go_wp2
      go_roundw
      case rel =>
        refine ⟨A2, A_r, A4, A_z, n2, c2, n_r, c_r, n4, c4, n_z, c_z, y, x % y, t, _, HW, ⟨?_, hG.out.2.2, hG.out.2.1.step hG.out.2.2 HM.out⟩, ln2, by omega, ln4, by omega, rfl, rfl, rfl, rfl⟩
        rw [← hG.out.1, Nat.gcd_comm y, ← Nat.gcd_rec, Nat.gcd_comm]
      case measure => exact NR.out
/-- what Extended gives, made one behind the other -/
def GExtC (w : World) (a b L : Nat) (e : Ending) (w' : World) : Prop :=
  ∃ (x y : Nat) (neg : Bool) (A1 : Option Addr) (n1 c1 : Nat) (A2 : Option Addr) (n2 c2 : Nat) (A3 : Option Addr) (n3 c3 : Nat), ExtOk a b x y neg ∧ e = .returned (.tuple #[.slice A1 n1 c1, .agg #[.bool false, .slice A2 n2 c2], .agg #[.bool neg, .slice A3 n3 c3]]) ∧
    ((Own .u64 41 w.heap.size w' A1 n1 c1 (dg W (Nat.gcd a b)) ∧ Own .u64 41 w.heap.size w' A2 n2 c2 (dg W x) ∧ Own .u64 41 w.heap.size w' A3 n3 c3 (dg W y)) ∧ Chain w.heap.size [(A1, n1, c1), (A2, n2, c2), (A3, n3, c3)] w'.heap.size) ∧ Below w.heap.size w w' ∧ n1 ≤ L ∧ n2 ≤ L ∧ n3 ≤ L
theorem Lies.none {B U : Nat} : Lies none B U := fun a e => by cases e
theorem size_set4 (w : World) (b : Nat) (u1 u2 u3 u4 : Value) : ((((w.setCell ⟨b, 0, none⟩ u1).setCell ⟨b, 1, none⟩ u2).setCell ⟨b + 1, 0, none⟩ u3).setCell ⟨b + 1, 1, none⟩ u4).heap.size = w.heap.size := by simp [World.setCell]
set_option maxHeartbeats 1000000 in
theorem extended_ch00 {v u : Value} {x y L K : Nat} {w : World} (h : Num w v x L) (h' : Num w u y K) (hx : x = 0) (hy : y = 0) (hL : L ≤ 268435456) (hK : K ≤ 268435456) :
    Calls Tryz.prog 33 #[v, u] w (GExtC w x y (L + K)) := by
  have H := Lib.hid h
  have H' := Lib.hid h'
  obtain ⟨_, _, _, _, rfl, _⟩ := id h
  obtain ⟨_, _, _, _, rfl, _⟩ := id h'
  have HX := Lib.hid (And.intro hx hy)
  clear h h' hx hy
  go_enter Tryz.func33, Tryz.ntmps33
  go_wp2_with fail
  refine (isZero_yes ((H'.out.below ((Below.refl _ _).alloc (Nat.le_refl _) _)).below ((Below.refl _ _).alloc (Nat.le_refl _) _)) HX.out.2 (by omega)).mono ?_
  rintro e w1 ⟨rfl, hb1⟩
  go_wp2_with fail
  refine (nnorm_any (((H.out.below ((Below.refl _ _).alloc (Nat.le_refl _) _)).below ((Below.refl _ _).alloc (Nat.le_refl _) _)).below hb1) (by omega)).mono ?_
  rintro e w2 ⟨A_g, n_g, c_g, rfl, o_g, hb2, l_g⟩
  obtain rfl := len_zero o_g HX.out.1
  have c1 := ((((Cel.box (i := 0) (v := .bool false) (t := 60) w #[.bool false, .slice none 0 0] rfl rfl).below ((Below.refl _ _).alloc (Nat.le_refl _) _)).below hb1).below hb2)
  have c2 := ((((Cel.box (i := 1) (v := .slice none 0 0) (t := 60) w #[.bool false, .slice none 0 0] rfl rfl).below ((Below.refl _ _).alloc (Nat.le_refl _) _)).below hb1).below hb2)
  have c3 := (((Cel.box (i := 0) (v := .bool false) (t := 60) (b := w.heap.size + 1) _ #[.bool false, .slice none 0 0] rfl (by simp)).below hb1).below hb2)
  have c4 := (((Cel.box (i := 1) (v := .slice none 0 0) (t := 60) (b := w.heap.size + 1) _ #[.bool false, .slice none 0 0] rfl (by simp)).below hb1).below hb2)
  obtain ⟨c1a, c1b, c1c⟩ := c1
  obtain ⟨c2a, c2b, c2c⟩ := c2
  obtain ⟨c3a, c3b, c3c⟩ := c3
  obtain ⟨c4a, c4b, c4c⟩ := c4
  go_wp2
  refine bodyPost_ret (v := .tuple #[.slice none 0 0, .agg #[.bool false, .slice none 0 0], .agg #[.bool false, .slice none 0 0]]) (by simp [results, Tryz.results33, go_sem, c1a, c2a, c3a, c4a]) rfl ?_
  have HB := ((((bt (bt (bt ((Below.refl _ _).alloc (Nat.le_refl _) _) ((Below.refl _ _).alloc (Nat.le_refl _) _)) hb1) hb2).setCell (p := ⟨w.heap.size, 0, none⟩) (Nat.le_refl _) (.bool false)).setCell (p := ⟨w.heap.size, 1, none⟩) (Nat.le_refl _) (.slice none 0 0)).setCell (p := ⟨w.heap.size + 1, 0, none⟩) (by simp) (.bool false)).setCell (p := ⟨w.heap.size + 1, 1, none⟩) (by simp) (.slice none 0 0)
  have e : Nat.gcd x y = 0 := by rw [HX.out.1, HX.out.2]; rfl
  exact ⟨0, 0, false, _, _, _, _, _, _, _, _, _, ⟨.inr ⟨rfl, by rw [e]; simp⟩, fun _ => ⟨rfl, by rw [if_pos HX.out.1]⟩, fun h => by have := HX.out.2; omega⟩, rfl, ⟨⟨by rw [e]; exact Own.nildg, Own.nildg, Own.nildg⟩, ⟨_, Nat.le_refl _, Lies.none, _, Nat.le_refl _, Lies.none, _, HB.size, Lies.none, Nat.le_refl _⟩⟩, HB, Nat.zero_le _, Nat.zero_le _, Nat.zero_le _⟩
set_option maxHeartbeats 2000000 in
theorem extended_cha0 {v u : Value} {x y L K : Nat} {w : World} (h : Num w v x L) (h' : Num w u y K) (hx : 0 < x) (hy : y = 0) (hL : L ≤ 268435456) (hK : K ≤ 268435456) :
    Calls Tryz.prog 33 #[v, u] w (GExtC w x y (L + K)) := by
  have hL0 : 0 < L := by
    have := h.lt
    rcases Nat.eq_zero_or_pos L with h0 | h0
    · rw [h0, Nat.pow_zero] at this; omega
    · exact h0
  have h1W : Hid (1 < W) := W_gt
  have H := Lib.hid h
  have H' := Lib.hid h'
  obtain ⟨_, _, _, _, rfl, _⟩ := id h
  obtain ⟨_, _, _, _, rfl, _⟩ := id h'
  have HX := Lib.hid (And.intro hx hy)
  clear h h' hx hy
  go_enter Tryz.func33, Tryz.ntmps33
  go_wp2_with fail
  refine (isZero_yes ((H'.out.below ((Below.refl _ _).alloc (Nat.le_refl _) _)).below ((Below.refl _ _).alloc (Nat.le_refl _) _)) HX.out.2 (by omega)).mono ?_
  rintro e w1 ⟨rfl, hb1⟩
  have Ha1 := Lib.hid (((H.out.below ((Below.refl _ _).alloc (Nat.le_refl _) _)).below ((Below.refl _ _).alloc (Nat.le_refl _) _)).below hb1)
  have Hb1 := Lib.hid (((H'.out.below ((Below.refl _ _).alloc (Nat.le_refl _) _)).below ((Below.refl _ _).alloc (Nat.le_refl _) _)).below hb1)
  have F0 := Lib.hid (((Cel.box (i := 0) (v := .bool false) (t := 60) w #[.bool false, .slice none 0 0] rfl rfl).below ((Below.refl _ _).alloc (Nat.le_refl _) _)).below hb1)
  have F1 := Lib.hid (((Cel.box (i := 1) (v := .slice none 0 0) (t := 60) w #[.bool false, .slice none 0 0] rfl rfl).below ((Below.refl _ _).alloc (Nat.le_refl _) _)).below hb1)
  have G0 := Lib.hid ((Cel.box (i := 0) (v := .bool false) (t := 60) (b := w.heap.size + 1) _ #[.bool false, .slice none 0 0] rfl (by simp)).below hb1)
  have G1 := Lib.hid ((Cel.box (i := 1) (v := .slice none 0 0) (t := 60) (b := w.heap.size + 1) _ #[.bool false, .slice none 0 0] rfl (by simp)).below hb1)
  have HB0 := Lib.hid (bt (bt ((Below.refl _ _).alloc (Nat.le_refl _) _) ((Below.refl _ _).alloc (Nat.le_refl _) _)) hb1)
  have SZ : w.heap.size + 1 < w1.heap.size := G0.out.2.2
  obtain ⟨wz, rfl⟩ : ∃ wz : World, wz = w1 := ⟨_, rfl⟩
  go_wp2_with fail
  refine (nnorm_any Ha1.out (by omega)).mono ?_
  rintro e w1 ⟨A_g, n_g, c_g, rfl, o_g, hb1, l_g⟩
  have z := len_pos o_g HX.out.1
  have z1 : ((n_g : Int) == 0) = false := by rw [beq_eq_false_iff_ne]; omega
  have L_g := Lib.hid o_g.lies
  go_wp2_with fail
  refine (nof_any rfl h1W.out).mono ?_
  rintro e w2 ⟨A_o, n_o, c_o, rfl, o_o, hb2, l_o⟩
  have L_o := Lib.hid o_o.lies
  have c1 := ((F0.out.below hb1).below hb2)
  have c2 := ((F1.out.below hb1).below hb2)
  have c3 := ((G0.out.below hb1).below hb2)
  have c4 := ((G1.out.below hb1).below hb2)
  obtain ⟨c1a, c1b, c1c⟩ := c1
  obtain ⟨c2a, c2b, c2c⟩ := c2
  obtain ⟨c3a, c3b, c3c⟩ := c3
  obtain ⟨c4a, c4b, c4c⟩ := c4
  go_wp2
  refine bodyPost_ret (v := .tuple #[.slice A_g n_g c_g, .agg #[.bool false, .slice A_o n_o c_o], .agg #[.bool false, .slice none 0 0]]) (by simp [results, Tryz.results33, go_sem, c1a, c2a, c3a, c4a]) rfl ?_
  have HB := ((((bt HB0.out (bt hb1 hb2)).setCell (p := ⟨w.heap.size, 0, none⟩) (Nat.le_refl _) (.bool false)).setCell (p := ⟨w.heap.size, 1, none⟩) (Nat.le_refl _) (.slice A_o n_o c_o)).setCell (p := ⟨w.heap.size + 1, 0, none⟩) (by simp) (.bool false)).setCell (p := ⟨w.heap.size + 1, 1, none⟩) (by simp) (.slice none 0 0)
  have e : Nat.gcd x y = x := by rw [HX.out.2, Nat.gcd_zero_right]
  exact ⟨1, 0, false, _, _, _, _, _, _, _, _, _, ⟨.inr ⟨rfl, by rw [e]; simp⟩, fun _ => ⟨rfl, by rw [if_neg (by have := HX.out.1; omega)]⟩, fun h => by have := HX.out.2; omega⟩, rfl, ⟨⟨by rw [e]; exact ((o_g.below hb2).set4 SZ).mono HB0.out.size, ((o_o.mono hb1.size).set4 SZ).mono HB0.out.size, Own.nildg⟩, by rw [size_set4]; exact ⟨_, Nat.le_trans HB0.out.size hb1.size, L_g.out.mono HB0.out.size (Nat.le_refl _), _, hb2.size, L_o.out, _, Nat.le_refl _, Lies.none, Nat.le_refl _⟩⟩, HB, by omega, by omega, Nat.zero_le _⟩
set_option maxHeartbeats 4000000 in
theorem extended_chb {v u : Value} {x y L K : Nat} {w : World} (h : Num w v x L) (h' : Num w u y K) (hx : True) (hy : 0 < y) (hL : L ≤ 268435456) (hK : K ≤ 268435456) :
    Calls Tryz.prog 33 #[v, u] w (GExtC w x y (L + K)) := by
  have hyp := hy
  have H := Lib.hid h
  have H' := Lib.hid h'
  obtain ⟨_, _, _, _, rfl, _⟩ := id h
  obtain ⟨_, _, _, _, rfl, _⟩ := id h'
  have HX := Lib.hid (And.intro hx hy)
  clear h h' hx hy
  go_enter Tryz.func33, Tryz.ntmps33
  go_wp2_with fail
  refine (isZero_no ((H'.out.below ((Below.refl _ _).alloc (Nat.le_refl _) _)).below ((Below.refl _ _).alloc (Nat.le_refl _) _)) HX.out.2 (by omega)).mono ?_
  rintro e w1 ⟨rfl, hb1⟩
  have Ha1 := Lib.hid (((H.out.below ((Below.refl _ _).alloc (Nat.le_refl _) _)).below ((Below.refl _ _).alloc (Nat.le_refl _) _)).below hb1)
  have Hb1 := Lib.hid (((H'.out.below ((Below.refl _ _).alloc (Nat.le_refl _) _)).below ((Below.refl _ _).alloc (Nat.le_refl _) _)).below hb1)
  have F0 := Lib.hid (((Cel.box (i := 0) (v := .bool false) (t := 60) w #[.bool false, .slice none 0 0] rfl rfl).below ((Below.refl _ _).alloc (Nat.le_refl _) _)).below hb1)
  have F1 := Lib.hid (((Cel.box (i := 1) (v := .slice none 0 0) (t := 60) w #[.bool false, .slice none 0 0] rfl rfl).below ((Below.refl _ _).alloc (Nat.le_refl _) _)).below hb1)
  have G0 := Lib.hid ((Cel.box (i := 0) (v := .bool false) (t := 60) (b := w.heap.size + 1) _ #[.bool false, .slice none 0 0] rfl (by simp)).below hb1)
  have G1 := Lib.hid ((Cel.box (i := 1) (v := .slice none 0 0) (t := 60) (b := w.heap.size + 1) _ #[.bool false, .slice none 0 0] rfl (by simp)).below hb1)
  have HB0 := Lib.hid (bt (bt ((Below.refl _ _).alloc (Nat.le_refl _) _) ((Below.refl _ _).alloc (Nat.le_refl _) _)) hb1)
  have SZ : w.heap.size + 1 < w1.heap.size := G0.out.2.2
  obtain ⟨wz, rfl⟩ : ∃ wz : World, wz = w1 := ⟨_, rfl⟩
  go_wp2_with fail
  refine (factor_ch Ha1.out Hb1.out hyp (by omega) (by omega)).mono ?_
  rintro e wf ⟨s, ⟨hs, hc⟩, mid, A_g, n_g, c_g, A_x, n_x, c_x, rfl, o_g, o_x, lgm, hm1, hm2, hbf, l_g, l_x⟩
  have LG := Lib.hid lgm
  have LX := Lib.hid o_x.lies
  have hw0 := HB0.out.size
  clear lgm
  have HF := Lib.hid (And.intro hs hc)
  clear hs hc
  go_wp2_with fail
  refine (mul_any (o_x.num l_x) (Ha1.out.below hbf) (by omega) (by omega)).mono ?_
  rintro e w1 ⟨A_p, n_p, c_p, rfl, o_p, hb1, l_p⟩
  have C := Lib.hid (ndiff_any (w := w1) ((o_g.num l_g).below hb1) (o_p.num l_p) (by omega) (by omega))
  rcases HF.out.2.nat with ⟨k, hk⟩ | ⟨k, hk⟩
  · rcases Nat.eq_zero_or_pos k with hk0 | hk0
    · have HK : Hid (Nat.gcd x y = s * x + y * k) := by show _ = _; rw [hk, hk0]; simp
      have hd : Nat.gcd x y - s * x + (s * x - Nat.gcd x y) = y * k := by have := HK.out; omega
      rw [hd, decide_eq_false (by have := HK.out; omega)] at C
      clear hk hd hk0
      go_wp2_with fail
      refine (C.out).mono ?_
      rintro e w2 ⟨A_d, n_d, c_d, rfl, o_d, hb2, l_d⟩
      go_wp2_with fail
      refine (gquo_any (o_d.num l_d) (((Hb1.out.below hbf).below hb1).below hb2) HX.out.2 (by omega) (by omega)).mono ?_
      rintro e w3 ⟨A_q, n_q, c_q, rfl, o_q, hb3, l_q⟩
      rw [Nat.mul_div_cancel_left k HX.out.2] at o_q
      skip
      have c1 := ((((F0.out.below hbf).below hb1).below hb2).below hb3)
      have c2 := ((((F1.out.below hbf).below hb1).below hb2).below hb3)
      have c3 := ((((G0.out.below hbf).below hb1).below hb2).below hb3)
      have c4 := ((((G1.out.below hbf).below hb1).below hb2).below hb3)
      obtain ⟨c1a, c1b, c1c⟩ := c1
      obtain ⟨c2a, c2b, c2c⟩ := c2
      obtain ⟨c3a, c3b, c3c⟩ := c3
      obtain ⟨c4a, c4b, c4c⟩ := c4
      go_wp2
      refine bodyPost_ret (v := .tuple #[.slice A_g n_g c_g, .agg #[.bool false, .slice A_x n_x c_x], .agg #[.bool false, .slice A_q n_q c_q]]) (by simp [results, Tryz.results33, go_sem, c1a, c2a, c3a, c4a]) rfl ?_
      have HB := ((((bt HB0.out (bt (bt (bt hbf hb1) hb2) hb3)).setCell (p := ⟨w.heap.size, 0, none⟩) (Nat.le_refl _) (.bool false)).setCell (p := ⟨w.heap.size, 1, none⟩) (Nat.le_refl _) (.slice A_x n_x c_x)).setCell (p := ⟨w.heap.size + 1, 0, none⟩) (by simp) (.bool false)).setCell (p := ⟨w.heap.size + 1, 1, none⟩) (by simp) (.slice A_q n_q c_q)
      exact ⟨s, k, false, _, _, _, _, _, _, _, _, _, ⟨.inr ⟨rfl, by rw [HK.out, Nat.mul_comm k]⟩, fun h => by have := HX.out.2; omega, fun _ => HF.out.1⟩, rfl, ⟨⟨((((o_g.below hb1).below hb2).below hb3).set4 SZ).mono HB0.out.size, ((((o_x.below hb1).below hb2).below hb3).set4 (by omega)).mono (by omega), ((o_q.mono (bt (bt hbf hb1) hb2).size).set4 SZ).mono HB0.out.size⟩, by rw [size_set4]; exact ⟨mid, by omega, LG.out.mono HB0.out.size (Nat.le_refl _), _, Nat.le_trans hm2 (bt hb1 hb2).size, LX.out.mono (Nat.le_refl _) (bt hb1 hb2).size, _, hb3.size, o_q.lies, Nat.le_refl _⟩⟩, HB, by omega, by omega, by omega⟩
    · have HK : Hid (s * x = Nat.gcd x y + k * y ∧ 0 < k) := ⟨by rw [hk, Nat.mul_comm], hk0⟩
      have hd : Nat.gcd x y - s * x + (s * x - Nat.gcd x y) = y * k := by omega
      have hpk : 0 < y * k := Nat.mul_pos HX.out.2 hk0
      rw [hd, decide_eq_true (by omega)] at C
      clear hk hd hk0 hpk
      go_wp2_with fail
      refine (C.out).mono ?_
      rintro e w4 ⟨A_d, n_d, c_d, rfl, o_d, hb4, l_d⟩
      go_wp2_with fail
      refine (gquo_any (o_d.num l_d) (((Hb1.out.below hbf).below hb1).below hb4) HX.out.2 (by omega) (by omega)).mono ?_
      rintro e w5 ⟨A_q, n_q, c_q, rfl, o_q, hb5, l_q⟩
      rw [Nat.mul_div_cancel_left k HX.out.2] at o_q
      (have zq := len_pos o_q HK.out.2);(have zq2 : (0 : Int) < (n_q : Int) := by omega)
      have c1 := ((((F0.out.below hbf).below hb1).below hb4).below hb5)
      have c2 := ((((F1.out.below hbf).below hb1).below hb4).below hb5)
      have c3 := ((((G0.out.below hbf).below hb1).below hb4).below hb5)
      have c4 := ((((G1.out.below hbf).below hb1).below hb4).below hb5)
      obtain ⟨c1a, c1b, c1c⟩ := c1
      obtain ⟨c2a, c2b, c2c⟩ := c2
      obtain ⟨c3a, c3b, c3c⟩ := c3
      obtain ⟨c4a, c4b, c4c⟩ := c4
      go_wp2
      refine bodyPost_ret (v := .tuple #[.slice A_g n_g c_g, .agg #[.bool false, .slice A_x n_x c_x], .agg #[.bool true, .slice A_q n_q c_q]]) (by simp [results, Tryz.results33, go_sem, c1a, c2a, c3a, c4a]) rfl ?_
      have HB := ((((bt HB0.out (bt (bt (bt hbf hb1) hb4) hb5)).setCell (p := ⟨w.heap.size, 0, none⟩) (Nat.le_refl _) (.bool false)).setCell (p := ⟨w.heap.size, 1, none⟩) (Nat.le_refl _) (.slice A_x n_x c_x)).setCell (p := ⟨w.heap.size + 1, 0, none⟩) (by simp) (.bool true)).setCell (p := ⟨w.heap.size + 1, 1, none⟩) (by simp) (.slice A_q n_q c_q)
      exact ⟨s, k, true, _, _, _, _, _, _, _, _, _, ⟨.inl ⟨rfl, HK.out.2, HK.out.1⟩, fun h => by have := HX.out.2; omega, fun _ => HF.out.1⟩, rfl, ⟨⟨((((o_g.below hb1).below hb4).below hb5).set4 SZ).mono HB0.out.size, ((((o_x.below hb1).below hb4).below hb5).set4 (by omega)).mono (by omega), ((o_q.mono (bt (bt hbf hb1) hb4).size).set4 SZ).mono HB0.out.size⟩, by rw [size_set4]; exact ⟨mid, by omega, LG.out.mono HB0.out.size (Nat.le_refl _), _, Nat.le_trans hm2 (bt hb1 hb4).size, LX.out.mono (Nat.le_refl _) (bt hb1 hb4).size, _, hb5.size, o_q.lies, Nat.le_refl _⟩⟩, HB, by omega, by omega, by omega⟩
  · have HK : Hid (Nat.gcd x y = s * x + y * k) := hk
    have hd : Nat.gcd x y - s * x + (s * x - Nat.gcd x y) = y * k := by omega
    rw [hd, decide_eq_false (by omega)] at C
    clear hk hd
    go_wp2_with fail
    refine (C.out).mono ?_
    rintro e w6 ⟨A_d, n_d, c_d, rfl, o_d, hb6, l_d⟩
    go_wp2_with fail
    refine (gquo_any (o_d.num l_d) (((Hb1.out.below hbf).below hb1).below hb6) HX.out.2 (by omega) (by omega)).mono ?_
    rintro e w7 ⟨A_q, n_q, c_q, rfl, o_q, hb7, l_q⟩
    rw [Nat.mul_div_cancel_left k HX.out.2] at o_q
    skip
    have c1 := ((((F0.out.below hbf).below hb1).below hb6).below hb7)
    have c2 := ((((F1.out.below hbf).below hb1).below hb6).below hb7)
    have c3 := ((((G0.out.below hbf).below hb1).below hb6).below hb7)
    have c4 := ((((G1.out.below hbf).below hb1).below hb6).below hb7)
    obtain ⟨c1a, c1b, c1c⟩ := c1
    obtain ⟨c2a, c2b, c2c⟩ := c2
    obtain ⟨c3a, c3b, c3c⟩ := c3
    obtain ⟨c4a, c4b, c4c⟩ := c4
    go_wp2
    refine bodyPost_ret (v := .tuple #[.slice A_g n_g c_g, .agg #[.bool false, .slice A_x n_x c_x], .agg #[.bool false, .slice A_q n_q c_q]]) (by simp [results, Tryz.results33, go_sem, c1a, c2a, c3a, c4a]) rfl ?_
    have HB := ((((bt HB0.out (bt (bt (bt hbf hb1) hb6) hb7)).setCell (p := ⟨w.heap.size, 0, none⟩) (Nat.le_refl _) (.bool false)).setCell (p := ⟨w.heap.size, 1, none⟩) (Nat.le_refl _) (.slice A_x n_x c_x)).setCell (p := ⟨w.heap.size + 1, 0, none⟩) (by simp) (.bool false)).setCell (p := ⟨w.heap.size + 1, 1, none⟩) (by simp) (.slice A_q n_q c_q)
    exact ⟨s, k, false, _, _, _, _, _, _, _, _, _, ⟨.inr ⟨rfl, by rw [HK.out, Nat.mul_comm k]⟩, fun h => by have := HX.out.2; omega, fun _ => HF.out.1⟩, rfl, ⟨⟨((((o_g.below hb1).below hb6).below hb7).set4 SZ).mono HB0.out.size, ((((o_x.below hb1).below hb6).below hb7).set4 (by omega)).mono (by omega), ((o_q.mono (bt (bt hbf hb1) hb6).size).set4 SZ).mono HB0.out.size⟩, by rw [size_set4]; exact ⟨mid, by omega, LG.out.mono HB0.out.size (Nat.le_refl _), _, Nat.le_trans hm2 (bt hb1 hb6).size, LX.out.mono (Nat.le_refl _) (bt hb1 hb6).size, _, hb7.size, o_q.lies, Nat.le_refl _⟩⟩, HB, by omega, by omega, by omega⟩
theorem extended_ch {v u : Value} {x y L K : Nat} {w : World} (h : Num w v x L) (h' : Num w u y K) (hL : L ≤ 268435456) (hK : K ≤ 268435456) :
    Calls Tryz.prog 33 #[v, u] w (GExtC w x y (L + K)) := by
  rcases Nat.eq_zero_or_pos y with hy | hy
  · rcases Nat.eq_zero_or_pos x with hx | hx
    · exact extended_ch00 h h' hx hy hL hK
    · exact extended_cha0 h h' hx hy hL hK
  · exact extended_chb h h' trivial hy hL hK
/-- two numbers, the second made behind the first -/
def GN2C (w : World) (x L y K : Nat) (e : Ending) (w' : World) : Prop :=
  ∃ (A1 : Option Addr) (n1 c1 : Nat) (A2 : Option Addr) (n2 c2 : Nat), e = .returned (.tuple #[.slice A1 n1 c1, .slice A2 n2 c2]) ∧
    ((Own .u64 41 w.heap.size w' A1 n1 c1 (dg W x) ∧ Own .u64 41 w.heap.size w' A2 n2 c2 (dg W y)) ∧ Chain w.heap.size [(A1, n1, c1), (A2, n2, c2)] w'.heap.size) ∧ Below w.heap.size w w' ∧ n1 ≤ L ∧ n2 ≤ K
theorem gsqrt_ch {v : Value} {x L : Nat} {w : World} (h : Num w v x L) (hL : L ≤ 67108864) : Calls Tryz.prog 36 #[v] w (GN2C w (nroot 2 x) L (x - nroot 2 x * nroot 2 x) L) := by
  have C := Lib.hid (groot_any (N := 2) (n' := 2) h rfl (by omega) hL)
  have HLE : Hid (nroot 2 x * nroot 2 x ≤ x) := by
    show _ ≤ _
    have := (nroot_spec (n := 2) (by omega) x).1
    rwa [Nat.pow_two] at this
  have H := Lib.hid h
  obtain ⟨_, _, _, _, rfl, _⟩ := id h
  clear h
  go_enter Tryz.func36, Tryz.ntmps36
  go_wp2_with fail
  refine C.out.mono ?_
  rintro e ws ⟨A_s, n_s, c_s, rfl, o_s, hbs, l_s⟩
  have LS := Lib.hid o_s.lies
  go_wp2_with fail
  refine (square_any (o_s.num l_s) (by omega)).mono ?_
  rintro e w1 ⟨A_p, n_p, c_p, rfl, o_p, hb1, l_p⟩
  go_wp2_with fail
  refine (gsub_any ((H.out.below hbs).below hb1) (o_p.num l_p) HLE.out (by omega) (by omega)).mono ?_
  rintro e w2 ⟨A_r, n_r, c_r, rfl, o_r, hb2, l_r⟩
  go_wp2
  go_ret2
  exact ⟨_, _, _, _, _, _, rfl, ⟨⟨((o_s.below hb1).below hb2), (o_r.mono (bt hbs hb1).size)⟩, ⟨_, Nat.le_trans hbs.size hb1.size, LS.out.mono (Nat.le_refl _) hb1.size, _, hb2.size, o_r.lies, Nat.le_refl _⟩⟩, (bt (bt hbs hb1) hb2), by omega, by omega⟩
/-- what Crt gives, the second number made behind the first -/
def GCrC (w : World) (rs ms : List Nat) (n L : Nat) (e : Ending) (w' : World) : Prop :=
  ∃ A1 n1 c1 A2 n2 c2 er, e = .returned (.tuple #[.slice A1 n1 c1, .slice A2 n2 c2, .int .i64 er]) ∧ Below w.heap.size w w' ∧ n1 ≤ L ∧ n2 ≤ L ∧ Hid (CrS w w' rs ms n A1 n1 c1 A2 n2 c2 er ∧ Chain w.heap.size [(A1, n1, c1), (A2, n2, c2)] w'.heap.size)
theorem chain_nil2 {lo hi : Nat} (h : lo ≤ hi) : Chain lo [(none, 0, 0), (none, 0, 0)] hi := ⟨_, Nat.le_refl _, Lies.none, _, h, Lies.none, Nat.le_refl _⟩
set_option maxHeartbeats 8000000 in
set_option maxRecDepth 100000 in
theorem gcrt_ch {A A' : Option Addr} {n c d : Nat} {rs ms ls ks : List Nat} {w : World} (h : Nums w A n c rs ls) (h' : Nums w A' n d ms ks) (hl : ∀ i, nth ls i ≤ 30) (hk : ∀ i, nth ks i ≤ 30) (hn : n ≤ 20) :
    Calls Tryz.prog 53 #[.slice A n c, .slice A' n d] w (GCrC w rs ms n 601) := by
  have H := Lib.hid h
  have H' := Lib.hid h'
  have HL := Lib.hid hl
  have HK := Lib.hid hk
  have HLEN : Hid (ms.length = n) := h'.1.1
  have HM30 : Hid (∀ j, j < n → nth ms j < W ^ 30) := fun j hj => by
    obtain ⟨_, _, v, _, _, _, hv⟩ := h'.at hj
    exact Nat.lt_of_lt_of_le hv.lt (Nat.pow_le_pow_right W_pos (hk j))
  have h1W : Hid (1 < W) := W_gt
  clear h h' hl hk
  go_enter Tryz.func53, Tryz.ntmps53
  go_wp2
  go_loopw [24] (fun iv wr => ∃ i : Nat, Hid (Below w.heap.size w wr ∧ ∀ j, j < i → 0 < nth ms j) ∧ i ≤ n ∧ iv = .int .i64 (i : Int)) (fun iv _ => n - (intOf iv).toNat)
  case atStart => exact ⟨0, ⟨Below.refl _ _, fun j hj => by omega⟩, Nat.zero_le _, rfl⟩
  case round =>
    obtain ⟨i, hI, hi, rfl⟩ := hrel
    obtain ⟨wo, rfl⟩ : ∃ wo : World, wo = wr := ⟨_, rfl⟩
    by_cases hlt : i < n
    · have i0 : (0 : Int) ≤ (i : Int) := by omega
      have i1 : (i : Int) < (n : Int) := by omega
      obtain ⟨b, off, v, ea, hb, hca, hv⟩ := (H'.out.below hI.out.1).at hlt
      have HV := Lib.hid (hv.mono (HK.out i))
      have HC := Lib.hid (show At wo ⟨b, off + i, none⟩ v from ⟨hca, hb⟩)
      have HEA := Lib.hid ea
      subst ea
      obtain ⟨_, _, _, _, rfl, _⟩ := id hv
      clear hca hb hv
      have hc1 := HC.out.1
      rcases Nat.eq_zero_or_pos (nth ms i) with hz | hz
      · have HZ := Lib.hid hz
        clear hz
        go_wp2_with fail
        refine (isZero_yes HV.out HZ.out (by omega)).mono ?_
        rintro e w1 ⟨rfl, hb1⟩
        have HBF := Lib.hid (bt hI.out.1 hb1)
        go_wp2
        go_ret3
        exact ⟨_, _, _, _, _, _, _, rfl, HBF.out, Nat.zero_le _, Nat.zero_le _, ⟨.inl ⟨⟨rfl, rfl, rfl⟩, ⟨rfl, rfl, rfl⟩, .inl ⟨rfl, i, hlt, HZ.out⟩⟩, chain_nil2 HBF.out.size⟩⟩
      · have HZ := Lib.hid hz
        clear hz
        go_wp2_with fail
        refine (isZero_no HV.out HZ.out (by omega)).mono ?_
        rintro e w2 ⟨rfl, hb2⟩
        have HNX : Hid (Below w.heap.size w w2 ∧ ∀ j, j < i + 1 → 0 < nth ms j) := ⟨bt hI.out.1 hb2, fun j hj => by
          rcases (show j < i ∨ j = i by omega) with h1 | h1
          · exact hI.out.2 j h1
          · rw [h1]; exact HZ.out⟩
        go_wp2
        go_roundw
        case rel => exact ⟨i + 1, HNX, hlt, by go_num⟩
        case measure => simp [intOf]; omega
    · obtain rfl : n = i := by omega
      have HPOS := Lib.hid hI.out.2
      go_wp2_with fail
      refine (nof_any (x := 1) (x' := 1) rfl h1W.out).mono ?_
      rintro e w3 ⟨A_o, n_o, c_o, rfl, o_o, hb3, l_o⟩
      have HS : Hid (Own .u64 41 w.heap.size w3 A_o n_o c_o (dg W 1) ∧ Below w.heap.size w w3) := ⟨o_o.mono hI.out.1.size, bt hI.out.1 hb3⟩
      clear o_o hlt hi
      go_wp2
      go_loopw [9, 10, 34] (fun xv lv iv wr => ∃ (k x l : Nat) (Ax : Option Addr) (nx cx : Nat) (Al : Option Addr) (nl cl : Nat), Hid (CrtI rs ms k x l ∧ Own .u64 41 w.heap.size wr Ax nx cx (dg W x) ∧ Own .u64 41 w.heap.size wr Al nl cl (dg W l) ∧ Below w.heap.size w wr ∧ Chain w.heap.size [(Ax, nx, cx), (Al, nl, cl)] wr.heap.size) ∧ k ≤ n ∧ nx ≤ 601 ∧ nl ≤ 601 ∧ xv = .slice Ax nx cx ∧ lv = .slice Al nl cl ∧ iv = .int .i64 (k : Int)) (fun _ _ iv _ => n - (intOf iv).toNat)
      case atStart => exact ⟨0, 0, 1, _, _, _, _, _, _, ⟨CrtI.start rs ms, Own.nildg, HS.out.1, HS.out.2, ⟨_, Nat.le_refl _, Lies.none, _, HS.out.2.size, HS.out.1.lies, Nat.le_refl _⟩⟩, Nat.zero_le _, Nat.zero_le _, by omega, rfl, rfl, rfl⟩
      case round =>
        clear hI HS
        obtain ⟨i, x, l, A_x, n_x, c_x, A_l, n_l, c_l, hI, hi, hnx, hnl, rfl, rfl, rfl⟩ := hrel
        obtain ⟨wo, rfl⟩ : ∃ wo : World, wo = wr := ⟨_, rfl⟩
        by_cases hlt : i < n
        · have i0 : (0 : Int) ≤ (i : Int) := by omega
          have i1 : (i : Int) < (n : Int) := by omega
          have HP : Hid (0 < nth ms i) := HPOS.out i hlt
          obtain ⟨b, off, v, ea, hb, hca, hv⟩ := (H'.out.below hI.out.2.2.2.1).at hlt
          have HV := Lib.hid (hv.mono (HK.out i))
          have HC := Lib.hid (show At wo ⟨b, off + i, none⟩ v from ⟨hca, hb⟩)
          have HEA := Lib.hid ea
          subst ea
          obtain ⟨_, _, _, _, rfl, _⟩ := id hv
          clear hca hb hv
          obtain ⟨b2, off2, v2, ea2, hb2', hca2, hv2⟩ := (H.out.below hI.out.2.2.2.1).at hlt
          have HV2 := Lib.hid (hv2.mono (HL.out i))
          have HC2 := Lib.hid (show At wo ⟨b2, off2 + i, none⟩ v2 from ⟨hca2, hb2'⟩)
          subst ea2
          obtain ⟨_, _, _, _, rfl, _⟩ := id hv2
          clear hca2 hb2' hv2
          have HG : Hid (0 < Nat.gcd l (nth ms i)) := Nat.gcd_pos_of_pos_right _ HP.out
          have HNG : Hid (0 < nth ms i / Nat.gcd l (nth ms i)) := ext_part HP.out
          have hc1 := HC.out.1
          go_wp2_with fail
          refine (nnorm_any HV.out (by omega)).mono ?_
          rintro e w1 ⟨A_nn, n_nn, c_nn, rfl, o_nn, hb1, l_nn⟩
          clear hc1
          go_wp2_with fail
          refine (factor_any ((hI.out.2.2.1.num hnl).below hb1) (o_nn.num l_nn) HP.out (by omega) (by omega)).mono ?_
          rintro e wf ⟨s, ⟨hs, hcg⟩, A_g, n_g, c_g, A_v, n_v, c_v, rfl, o_g, o_v, hbf, l_g, l_v⟩
          have HCG := Lib.hid hcg
          clear hs hcg
          have hc2 := ((HC2.out.below hb1).below hbf).1
          go_wp2_with fail
          refine (gmod_any ((HV2.out.below hb1).below hbf) ((o_nn.num l_nn).below hbf) HP.out (by omega) (by omega)).mono ?_
          rintro e w2 ⟨A_m1, n_m1, c_m1, rfl, o_m1, hb2, l_m1⟩
          clear hc2
          go_wp2_with fail
          refine (gmod_any ((((hI.out.2.1.num hnx).below hb1).below hbf).below hb2) (((o_nn.num l_nn).below hbf).below hb2) HP.out (by omega) (by omega)).mono ?_
          rintro e w3 ⟨A_m2, n_m2, c_m2, rfl, o_m2, hb3, l_m2⟩
          go_wp2_with fail
          refine (gsub_any ((((o_nn.num l_nn).below hbf).below hb2).below hb3) (o_m2.num l_m2) (Nat.le_of_lt (Nat.mod_lt _ HP.out)) (by omega) (by omega)).mono ?_
          rintro e w4 ⟨A_s1, n_s1, c_s1, rfl, o_s1, hb4, l_s1⟩
          go_wp2_with fail
          refine (nadd_any (((o_m1.num l_m1).below hb3).below hb4) (o_s1.num l_s1) (by omega) (by omega)).mono ?_
          rintro e w5 ⟨A_a1, n_a1, c_a1, rfl, o_a1, hb5, l_a1⟩
          go_wp2_with fail
          refine (gmod_any (o_a1.num l_a1) ((((((o_nn.num l_nn).below hbf).below hb2).below hb3).below hb4).below hb5) HP.out (by omega) (by omega)).mono ?_
          rintro e w6 ⟨A_d, n_d, c_d, rfl, o_d, hb6, l_d⟩
          rw [crtD_nat HP.out] at o_d
          go_wp2_with fail
          refine (gmod_any (o_d.num l_d) ((((((o_g.num l_g).below hb2).below hb3).below hb4).below hb5).below hb6) HG.out (by omega) (by omega)).mono ?_
          rintro e w7 ⟨A_lf, n_lf, c_lf, rfl, o_lf, hb7, l_lf⟩
          rcases Nat.eq_zero_or_pos (crtD (nth rs i) x (nth ms i) % Nat.gcd l (nth ms i)) with h0 | h0
          · have HNS := Lib.hid (crt_prog hI.out.1 (by rw [HLEN.out]; exact hlt) HP.out h0 HCG.out HNG.out)
            have HLE := Lib.hid (HNS.out.lens (M := 601) (fun j hj => HM30.out j (by omega)) (by rw [HLEN.out]; exact hlt) (by omega))
            obtain rfl := len_zero o_lf h0
            clear h0 o_lf
            go_wp2_with fail
            refine (gquo_any ((o_d.num l_d).below hb7) (((((((o_g.num l_g).below hb2).below hb3).below hb4).below hb5).below hb6).below hb7) HG.out (by omega) (by omega)).mono ?_
            rintro e w8 ⟨A_q1, n_q1, c_q1, rfl, o_q1, hb8, l_q1⟩
            go_wp2_with fail
            refine (mul_any (o_q1.num l_q1) ((((((((o_v.num l_v).below hb2).below hb3).below hb4).below hb5).below hb6).below hb7).below hb8) (by omega) (by omega)).mono ?_
            rintro e w9 ⟨A_p1, n_p1, c_p1, rfl, o_p1, hb9, l_p1⟩
            go_wp2_with fail
            refine (gquo_any ((((((((((o_nn.num l_nn).below hbf).below hb2).below hb3).below hb4).below hb5).below hb6).below hb7).below hb8).below hb9) (((((((((o_g.num l_g).below hb2).below hb3).below hb4).below hb5).below hb6).below hb7).below hb8).below hb9) HG.out (by omega) (by omega)).mono ?_
            rintro e w10 ⟨A_q2, n_q2, c_q2, rfl, o_q2, hb10, l_q2⟩
            go_wp2_with fail
            refine (gmod_any ((o_p1.num l_p1).below hb10) (o_q2.num l_q2) HNG.out (by omega) (by omega)).mono ?_
            rintro e w11 ⟨A_t, n_t, c_t, rfl, o_t, hb11, l_t⟩
            go_wp2_with fail
            refine (mul_any (((((((((((((hI.out.2.2.1.num hnl).below hb1).below hbf).below hb2).below hb3).below hb4).below hb5).below hb6).below hb7).below hb8).below hb9).below hb10).below hb11) (o_t.num l_t) (by omega) (by omega)).mono ?_
            rintro e w12 ⟨A_p2, n_p2, c_p2, rfl, o_p2, hb12, l_p2⟩
            go_wp2_with fail
            refine (nadd_any ((((((((((((((hI.out.2.1.num hnx).below hb1).below hbf).below hb2).below hb3).below hb4).below hb5).below hb6).below hb7).below hb8).below hb9).below hb10).below hb11).below hb12) (o_p2.num l_p2) (by omega) (by omega)).mono ?_
            rintro e w13 ⟨A_x2, n_x2, c_x2, rfl, o_x2, hb13, l_x2⟩
            have L_x2 := Lib.hid o_x2.lies
            have lx2 : n_x2 ≤ 601 := by rw [← o_x2.len]; exact dgl HLE.out.1
            go_wp2_with fail
            refine (lcm_any (((((((((((((((hI.out.2.2.1.num hnl).below hb1).below hbf).below hb2).below hb3).below hb4).below hb5).below hb6).below hb7).below hb8).below hb9).below hb10).below hb11).below hb12).below hb13) ((((((((((((((o_nn.num l_nn).below hbf).below hb2).below hb3).below hb4).below hb5).below hb6).below hb7).below hb8).below hb9).below hb10).below hb11).below hb12).below hb13) (by omega) (by omega)).mono ?_
            rintro e w14 ⟨A_l2, n_l2, c_l2, rfl, o_l2, hb14, l_l2⟩
            have ll2 : n_l2 ≤ 601 := by rw [← o_l2.len]; exact dgl HLE.out.2
            have HCN : Hid (Chain w.heap.size [(A_x2, n_x2, c_x2), (A_l2, n_l2, c_l2)] (w14).heap.size) := ⟨_, Nat.le_trans hI.out.2.2.2.1.size (bt (bt (bt (bt (bt (bt (bt (bt (bt (bt (bt (bt (bt hb1 hbf) hb2) hb3) hb4) hb5) hb6) hb7) hb8) hb9) hb10) hb11) hb12) hb13).size, L_x2.out.mono (Nat.le_trans hI.out.2.2.2.1.size (bt (bt (bt (bt (bt (bt (bt (bt (bt (bt (bt (bt hb1 hbf) hb2) hb3) hb4) hb5) hb6) hb7) hb8) hb9) hb10) hb11) hb12).size) (Nat.le_refl _), _, hb14.size, o_l2.lies, Nat.le_refl _⟩
            have HNX := Lib.hid (And.intro HNS.out (And.intro (((o_x2.mono (bt (bt (bt (bt (bt (bt (bt (bt (bt (bt (bt (bt hb1 hbf) hb2) hb3) hb4) hb5) hb6) hb7) hb8) hb9) hb10) hb11) hb12).size).below hb14).mono hI.out.2.2.2.1.size) (And.intro ((o_l2.mono (bt (bt (bt (bt (bt (bt (bt (bt (bt (bt (bt (bt (bt hb1 hbf) hb2) hb3) hb4) hb5) hb6) hb7) hb8) hb9) hb10) hb11) hb12) hb13).size).mono hI.out.2.2.2.1.size) (And.intro (bt hI.out.2.2.2.1 (bt (bt (bt (bt (bt (bt (bt (bt (bt (bt (bt (bt (bt (bt hb1 hbf) hb2) hb3) hb4) hb5) hb6) hb7) hb8) hb9) hb10) hb11) hb12) hb13) hb14)) HCN.out))))
            clear o_nn o_g o_v o_m1 o_m2 o_s1 o_a1 o_d o_q1 o_p1 o_q2 o_t o_p2 o_x2 o_l2 HNS HLE
            go_wp2
            go_roundw
            case rel => exact ⟨i + 1, _, _, _, _, _, _, _, _, HNX, hlt, lx2, ll2, rfl, rfl, by go_num⟩
            case measure => simp [intOf]; omega
          · have HF := Lib.hid (CrtI.nofail (hI.out.1.fail HP.out (by omega)) hlt)
            have z1 := len_pos o_lf h0
            have z2 : ((n_lf : Int) == 0) = false := by rw [beq_eq_false_iff_ne]; omega
            have HBF := Lib.hid (bt hI.out.2.2.2.1 (bt (bt (bt (bt (bt (bt (bt hb1 hbf) hb2) hb3) hb4) hb5) hb6) hb7))
            clear h0 o_nn o_g o_v o_m1 o_m2 o_s1 o_a1 o_d o_lf
            go_wp2
            go_ret3
            exact ⟨_, _, _, _, _, _, _, rfl, HBF.out, Nat.zero_le _, Nat.zero_le _, ⟨.inl ⟨⟨rfl, rfl, rfl⟩, ⟨rfl, rfl, rfl⟩, .inr ⟨rfl, HPOS.out, HF.out⟩⟩, chain_nil2 HBF.out.size⟩⟩
        · obtain rfl : n = i := by omega
          go_wp2
          go_ret3
          exact ⟨_, _, _, _, _, _, _, rfl, hI.out.2.2.2.1, hnx, hnl, ⟨.inr ⟨rfl, HPOS.out, _, _, hI.out.1, hI.out.2.1, hI.out.2.2.1⟩, hI.out.2.2.2.2⟩⟩
end Go.Proofs.YtamfhmmcnlollaaGreat
