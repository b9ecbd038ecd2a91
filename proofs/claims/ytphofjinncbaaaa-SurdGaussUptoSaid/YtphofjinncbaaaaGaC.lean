/-
  surdtop.gaussLaws. SurdGauss: the walk.
-/
import Derived.Test.YtphofjinncbaaaaGaB
import Derived.Deep.CutRange
import Derived.Laws.StructEq
namespace Go.Proofs.Ytphofjinncbaaaa
open Go.RowKit
set_option linter.unusedVariables false
set_option linter.unusedSimpArgs false

theorem S1_zpi {A : Option Addr} {n c L : Nat} {rs : List Zc} {w : World} (h : ZPI L w (.slice A n c) rs) (hn : n ≤ 40) : S1 (ztr (rs.map zv)) ≤ W ^ (L + 1) := by
  refine Nat.le_trans (S1_ztr _) ?_
  have h1 := S1_le (zs := rs.map zv) (m := W ^ L) fun z hz => Nat.le_of_lt (h.coef z hz)
  rw [List.length_map, ← h.len.1] at h1
  refine Nat.le_trans h1 ?_
  rw [Nat.pow_succ, Nat.mul_comm]
  exact Nat.mul_le_mul_left _ (Nat.le_of_lt (W_big (by omega)))
theorem mulR {A A2 : Option Addr} {n c n2 c2 L M K : Nat} {rs rs2 : List Zc} {w : World} (h : ZPI L w (.slice A n c) rs) (h2 : ZPI M w (.slice A2 n2 c2) rs2) (hn : n ≤ 40) (hn2 : n2 ≤ 40) (hK : L + M + 3 ≤ K) (hKb : K ≤ 4294967296) :
    Calls Try.prog 63 #[.slice A n c, .slice A2 n2 c2] w (GZP w K (ztr (zmull (ztr (rs.map zv)) (ztr (rs2.map zv))))) := by
  refine zpmul_any h h2 (by omega) (by omega) (by omega) (by omega) (by omega) fun i j _ _ z hz => ?_
  have h1 := S1_zpi h hn
  have h3 := S1_zpi h2 hn2
  refine Nat.lt_of_le_of_lt (Nat.le_trans (S1_mem hz) (Nat.le_trans (S1_part _ _ _ _ _) (Nat.mul_le_mul h1 h3))) ?_
  rw [← Nat.pow_add]
  exact Nat.pow_lt_pow_right W_gt (by omega)
/-- a Gaussian number or an error -/
def GNumOr (z : Gz) (w : World) (e : Ending) (w' : World) : Prop := ∃ (v : Gz) (er : Int), e = .returned (.tuple #[gv v, .int .i64 er]) ∧ Hid (((er = 0 ∧ v = z) ∨ er = 13) ∧ gsz v < GM) ∧ Below w.heap.size w w'
def GIntOr (z : Int) (w : World) (e : Ending) (w' : World) : Prop := ∃ (v : Int) (er : Int), e = .returned (.tuple #[.int .i64 v, .int .i64 er]) ∧ Hid ((er = 0 ∧ v = z ∧ 0 ≤ v ∧ v < 1125899906842624) ∨ er = 13) ∧ Below w.heap.size w w'
theorem gadd_any {x y : Gz} {w : World} (hx : gsz x < GM) (hy : gsz y < GM) : Calls Try.prog 70 #[gv x, gv y] w (GNumOr (gadd x y) w) := by
  by_cases h : gsz x + gsz y < GM
  · exact (gadd_yes hx hy h).mono fun e w' ⟨h1, h2⟩ => ⟨_, 0, h1, ⟨.inl ⟨rfl, rfl⟩, by have := gsz_add x y; omega⟩, h2⟩
  · exact (gadd_no hx hy h).mono fun e w' ⟨h1, h2⟩ => ⟨_, 13, h1, ⟨.inr rfl, by unfold gsz GM; decide⟩, h2⟩
theorem gmul_any {x y : Gz} {w : World} (hx : gsz x < GM) (hy : gsz y < GM) : Calls Try.prog 71 #[gv x, gv y] w (GNumOr (gmul x y) w) := by
  cases h : gfits (gsz x) (gsz y)
  · exact (gmul_no hx hy h).mono fun e w' ⟨h1, h2⟩ => ⟨_, 13, h1, ⟨.inr rfl, by unfold gsz GM; decide⟩, h2⟩
  · exact (gmul_yes hx hy h).mono fun e w' ⟨h1, h2⟩ => ⟨_, 0, h1, ⟨.inl ⟨rfl, rfl⟩, Nat.lt_of_le_of_lt (gsz_mul x y) (of_decide_eq_true h : gsz x * gsz y < GM)⟩, h2⟩
theorem gnorm_any {x : Gz} {w : World} (hx : gsz x < GM) : Calls Try.prog 73 #[gv x] w (GIntOr (gnm x) w) := by
  cases h : gfits (gsz x) (gsz x)
  · exact (gnorm_no hx h).mono fun e w' ⟨h1, h2⟩ => ⟨0, 13, h1, .inr rfl, h2⟩
  · have hs' : gsz x * gsz x < GM := of_decide_eq_true h
    have h3 := gnm_le x
    have h4 : ((gsz x * gsz x : Nat) : Int) = (gsz x : Int) * gsz x := by simp
    unfold GM at hs'
    exact (gnorm_yes hx h).mono fun e w' ⟨h1, h2⟩ => ⟨_, 0, h1, .inl ⟨rfl, rfl, gnm_nonneg x, by omega⟩, h2⟩
theorem num_fields : Try.prog.underlying 68 = some (.struct (Try.prog.fieldsOf 68)) := by unfold Program.fieldsOf; rw [Try.underlying68]
theorem num_same (x y : Int) (w : World) : (binOp .neq 68 (.agg #[.int .i64 x, .int .i64 y]) (.agg #[.int .i64 x, .int .i64 y])).run Try.prog w = .ok (.bool false) w := by
  rw [run_neq_struct, run_equalIn_agg w 9999 _ _ _ num_fields (by kernel_rfl)]
  unfold Program.fieldsOf
  rw [Try.underlying68]
  simp [Op.eqFields, go_sem]
theorem num_guard (op : BinOp) (x y : Operand) (xs ys : Array Value) (w : World) : (eqGuard op 68 x y (.agg xs) (.agg ys)).run Try.prog w = .ok () w := run_eqGuard_agg w op _ x y xs ys (by kernel_rfl)
/-- a Gaussian number in a box -/
def AtG (w : World) (b : Nat) (z : Gz) : Prop := At w ⟨b, 0, none⟩ (.int .i64 z.1) ∧ At w ⟨b, 1, none⟩ (.int .i64 z.2)
theorem AtG.below {w w' : World} {b : Nat} {z : Gz} (h : AtG w b z) (hb : Below w.heap.size w w') : AtG w' b z := ⟨h.1.below hb, h.2.below hb⟩
theorem AtG.new {w : World} {b : Nat} {z : Gz} (hb : b = w.heap.size) : AtG (w.alloc (.cells #[.int .i64 z.1, .int .i64 z.2] 68)) b z :=
  ⟨At.boxc (i := 0) (v := .int .i64 z.1) (t := 68) (b := b) w #[.int .i64 z.1, .int .i64 z.2] rfl hb, At.boxc (i := 1) (v := .int .i64 z.2) (t := 68) (b := b) w #[.int .i64 z.1, .int .i64 z.2] rfl hb⟩
set_option maxRecDepth 100000 in
set_option maxHeartbeats 16000000 in
theorem gaussLaws_any {A A2 : Option Addr} {n c n2 c2 N : Nat} {rs rs2 : List Zc} {z a b : Gz} {sp sq : Nat × Nat} {w : World} (h : ZPI N w (.slice A n c) rs) (h2 : ZPI N w (.slice A2 n2 c2) rs2) (hN : N ≤ 1048576) (hn : n ≤ 20) (hn2 : n2 ≤ 20) (hz : gsz z < GM)
    (hp : gfold (max (gsz z) 1) (ztr (rs.map zv)) = some sp) (hq : gfold (max (gsz z) 1) (ztr (rs2.map zv)) = some sq) (ha : a = gev (ztr (rs.map zv)) z) (hb : b = gev (ztr (rs2.map zv)) z) :
    Calls Try.prog 36 #[.slice A n c, .slice A2 n2 c2, gv z, gv a, gv b] w (Keeps (.bool true) w) := by
  have hsa : gsz a < GM := by rw [ha]; exact Nat.lt_of_le_of_lt (gsz_gev (Nat.le_max_left _ _) _) (gfold_wsum (Nat.le_max_right _ _) hp)
  have hsb : gsz b < GM := by rw [hb]; exact Nat.lt_of_le_of_lt (gsz_gev (Nat.le_max_left _ _) _) (gfold_wsum (Nat.le_max_right _ _) hq)
  have HP := Lib.hid h
  have HQ := Lib.hid h2
  have HZ := Lib.hid hz
  have HSA := Lib.hid hsa
  have HSB := Lib.hid hsb
  have HFP := Lib.hid hp
  have HFQ := Lib.hid hq
  have HGA : Hid (a = gev (rs.map zv) z) := by show _ = _; rw [ha, gev_ztr]
  have HGB : Hid (b = gev (rs2.map zv) z) := by show _ = _; rw [hb, gev_ztr]
  clear h h2 hz hp hq ha hb hsa hsb
  obtain ⟨z1, z2⟩ := z
  obtain ⟨a1, a2⟩ := a
  obtain ⟨b1, b2⟩ := b
  go_enter Try.func36, Try.ntmps36
  have hT : AtG (World.alloc (World.alloc (World.alloc w (.cells #[.int .i64 z1, .int .i64 z2] 68)) (.cells #[.int .i64 a1, .int .i64 a2] 68)) (.cells #[.int .i64 b1, .int .i64 b2] 68)) w.heap.size (z1, z2) ∧ AtG (World.alloc (World.alloc (World.alloc w (.cells #[.int .i64 z1, .int .i64 z2] 68)) (.cells #[.int .i64 a1, .int .i64 a2] 68)) (.cells #[.int .i64 b1, .int .i64 b2] 68)) (w.heap.size + 1) (a1, a2) ∧ AtG (World.alloc (World.alloc (World.alloc w (.cells #[.int .i64 z1, .int .i64 z2] 68)) (.cells #[.int .i64 a1, .int .i64 a2] 68)) (.cells #[.int .i64 b1, .int .i64 b2] 68)) (w.heap.size + 1 + 1) (b1, b2) := ⟨⟨(((At.boxc (i := 0) (v := .int .i64 z1) (t := 68) (b := w.heap.size) w #[.int .i64 z1, .int .i64 z2] rfl (by simp)).below ((Below.refl _ _).alloc (Nat.le_refl _) (.cells #[.int .i64 a1, .int .i64 a2] 68))).below ((Below.refl _ _).alloc (Nat.le_refl _) (.cells #[.int .i64 b1, .int .i64 b2] 68))), (((At.boxc (i := 1) (v := .int .i64 z2) (t := 68) (b := w.heap.size) w #[.int .i64 z1, .int .i64 z2] rfl (by simp)).below ((Below.refl _ _).alloc (Nat.le_refl _) (.cells #[.int .i64 a1, .int .i64 a2] 68))).below ((Below.refl _ _).alloc (Nat.le_refl _) (.cells #[.int .i64 b1, .int .i64 b2] 68)))⟩, ⟨((At.boxc (i := 0) (v := .int .i64 a1) (t := 68) (b := w.heap.size + 1) (World.alloc w (.cells #[.int .i64 z1, .int .i64 z2] 68)) #[.int .i64 a1, .int .i64 a2] rfl (by simp)).below ((Below.refl _ _).alloc (Nat.le_refl _) (.cells #[.int .i64 b1, .int .i64 b2] 68))), ((At.boxc (i := 1) (v := .int .i64 a2) (t := 68) (b := w.heap.size + 1) (World.alloc w (.cells #[.int .i64 z1, .int .i64 z2] 68)) #[.int .i64 a1, .int .i64 a2] rfl (by simp)).below ((Below.refl _ _).alloc (Nat.le_refl _) (.cells #[.int .i64 b1, .int .i64 b2] 68)))⟩, ⟨(At.boxc (i := 0) (v := .int .i64 b1) (t := 68) (b := w.heap.size + 1 + 1) (World.alloc (World.alloc w (.cells #[.int .i64 z1, .int .i64 z2] 68)) (.cells #[.int .i64 a1, .int .i64 a2] 68)) #[.int .i64 b1, .int .i64 b2] rfl (by simp)), (At.boxc (i := 1) (v := .int .i64 b2) (t := 68) (b := w.heap.size + 1 + 1) (World.alloc (World.alloc w (.cells #[.int .i64 z1, .int .i64 z2] 68)) (.cells #[.int .i64 a1, .int .i64 a2] 68)) #[.int .i64 b1, .int .i64 b2] rfl (by simp))⟩⟩
  have hB0 : Below w.heap.size w (World.alloc (World.alloc (World.alloc w (.cells #[.int .i64 z1, .int .i64 z2] 68)) (.cells #[.int .i64 a1, .int .i64 a2] 68)) (.cells #[.int .i64 b1, .int .i64 b2] 68)) := (bt (bt ((Below.refl _ _).alloc (Nat.le_refl _) (.cells #[.int .i64 z1, .int .i64 z2] 68)) ((Below.refl _ _).alloc (Nat.le_refl _) (.cells #[.int .i64 a1, .int .i64 a2] 68))) ((Below.refl _ _).alloc (Nat.le_refl _) (.cells #[.int .i64 b1, .int .i64 b2] 68)))
  go_wp2_with fail
  generalize (World.alloc (World.alloc (World.alloc w (.cells #[.int .i64 z1, .int .i64 z2] 68)) (.cells #[.int .i64 a1, .int .i64 a2] 68)) (.cells #[.int .i64 b1, .int .i64 b2] 68)) = wa at *
  have HT := Lib.hid hT
  have HB := Lib.hid hB0
  clear hT hB0
  have x0_z := (HT.out.1.below (Below.refl _ _)).1.1
  have x1_z := (HT.out.1.below (Below.refl _ _)).2.1
  have y0_z := At.growB (HT.out.1.below (Below.refl _ _)).1
  have y1_z := At.growB (HT.out.1.below (Below.refl _ _)).2
  dsimp only at x0_z x1_z y0_z y1_z
  refine wp_region_fltR (KB wa.heap.size) (KB.refl _) (KB.trans _) (KB.of_grow _) [(0, 0), (0, 2), (0, 5), (2, 10), (1, 1), (1, 3), (1, 4), (1, 6), (0, 7), (0, 8), (0, 9), (4, 10), (3, 11), (0, 12)] (by kernel_rfl) (by kernel_rfl) ?_
  repeat (refine flt_pas (by rfl) (fun K hK => ?_); go_simp; refine hK _ _ (fun w' hw' => (by first | (go_simp; done) | (go_simp; intro hh; cases hh))) ?_; clear hK K)
  refine flt_alloc wa.heap.size 68 #[.int .i64 0, .int .i64 0] (by rfl) rfl (fun w1 => (by go_simp)) (Nat.le_refl _) ?_
  clear x0_z x1_z y0_z y1_z
  refine flt_call (by rfl) (fun v_1 hv_1 K hK => ?_); go_simp; refine hK _ _ ?_; clear hK K
  have D_1 := bt (below_drewN wa 1) hv_1.below
  refine (copyZ_any (HP.out.below (bt HB.out D_1)) (by omega) (by omega)).mono ?_
  rintro e w_1 ⟨P_1, p_1, d_1, rfl, hz_1, hb_1⟩
  refine ⟨_, rfl, Grow.of_below hb_1, ?_⟩
  (refine flt_norm (fun K hK => ?_); go_simp; refine hK _ ?_; clear hK K)
  have E_1 := bt D_1 hb_1
  refine flt_call (by rfl) (fun v_2 hv_2 K hK => ?_); go_simp; refine hK _ _ ?_; clear hK K
  have D_2 := bt (E_1) hv_2.below
  refine (copyZ_any (HQ.out.below (bt HB.out D_2)) (by omega) (by omega)).mono ?_
  rintro e w_2 ⟨P_2, p_2, d_2, rfl, hz_2, hb_2⟩
  refine ⟨_, rfl, Grow.of_below hb_2, ?_⟩
  (refine flt_norm (fun K hK => ?_); go_simp; refine hK _ ?_; clear hK K)
  have E_2 := bt D_2 hb_2
  refine flt_call (by rfl) (fun v_3 hv_3 K hK => ?_); go_simp; refine hK _ _ ?_; clear hK K
  have D_3 := bt E_2 hv_3.below
  refine (zpadd_any (((hz_1.below hv_2.below).below hb_2).below hv_3.below) (hz_2.below hv_3.below) (by omega) (by omega) (by have := hz_1.len.1; have := HP.out.len.1; omega) (by have := hz_2.len.1; have := HQ.out.len.1; omega)).mono ?_
  rintro e w_3 ⟨P_3, p_3, d_3, rfl, hz_3, hb_3⟩
  refine ⟨_, rfl, Grow.of_below hb_3, ?_⟩
  (refine flt_norm (fun K hK => ?_); go_simp; refine hK _ ?_; clear hK K)
  have hp3 : p_3 ≤ 20 := by
    rw [hz_3.len]
    refine Nat.le_trans (ztr_le _) ?_
    rw [zaddl_len, List.length_map, List.length_map, ← HP.out.len.1, ← HQ.out.len.1]
    omega
  refine flt_call (by rfl) (fun v_4 hv_4 K hK => ?_); go_simp; refine hK _ _ ?_; clear hK K
  have D_4 := bt D_3 (bt hb_3 hv_4.below)
  have C := gvalue_any (z := (z1, z2)) (hz_3.below hv_4.below).c.inp HZ.out (by omega) (by omega)
  refine C.mono ?_
  rintro e w_4 ⟨vs, er1, rfl, hvs, hb_4⟩
  refine ⟨_, rfl, Grow.of_below hb_4, ?_⟩
  (refine flt_norm (fun K hK => ?_); go_simp; refine hK _ ?_; clear hK K)
  have HVS : Hid ((er1 = 0 ∧ vs = gadd (a1, a2) (b1, b2)) ∨ er1 = 13) := by
    rcases hvs.out with ⟨h1, h2, _⟩ | ⟨h1, _⟩
    · exact .inl ⟨h1, by rw [h2, gev_ztr, zco_map, gev_ztr, gev_zaddl, HGA.out, HGB.out]⟩
    · exact .inr h1
  obtain ⟨s1, s2⟩ := vs
  have E_4 := bt D_4 hb_4
  clear C hvs
  repeat (refine flt_pas (by rfl) (fun K hK => ?_); go_simp; refine hK _ _ (fun w' hw' => (by first | (go_simp; done) | (go_simp; intro hh; cases hh))) ?_; clear hK K)
  refine flt_land (by rfl) (fun vv u_s hu_s hF => ?_)
  obtain ⟨b_s, rfl, hB_s, hc_s⟩ := hF
  (refine flt_norm (fun K hK => ?_); go_simp; refine hK _ ?_; clear hK K)
  obtain ⟨cz1, cz2, cz3⟩ := cel_of hc_s (j := 0) rfl
  obtain ⟨cz4, cz5, cz6⟩ := cel_of hc_s (j := 1) rfl
  (refine flt_actX (by rfl) (fun K hK => ?_); go_simp)
  refine hK _ _ ⟨KB.set2 hB_s, ?_⟩
  clear hK K
  (refine flt_norm (fun K hK => ?_); go_simp; refine hK _ ?_; clear hK K)
  repeat (refine flt_pas (by rfl) (fun K hK => ?_); go_simp; refine hK _ _ (fun w' hw' => (by first | (go_simp; done) | (go_simp; intro hh; cases hh))) ?_; clear hK K)
  refine flt_nil ?_
  obtain ⟨wu_s, hwu⟩ : ∃ wu : World, wu = (u_s.setCell ⟨b_s, 0, none⟩ (.int .i64 s1)).setCell ⟨b_s, 1, none⟩ (.int .i64 s2) := ⟨_, rfl⟩
  rw [← hwu]
  have HU_s : Hid (Below wa.heap.size wa wu_s ∧ AtG wu_s b_s (s1, s2)) := by
    rw [hwu]
    have k1 := bt (E_4) hu_s.below
    exact ⟨(k1.setCell (p := ⟨b_s, 0, none⟩) hB_s _).setCell (p := ⟨b_s, 1, none⟩) hB_s _, Cel.at ((Cel.put ⟨cz1, cz2, cz3⟩).set (by simp)), Cel.at ((Cel.set ⟨cz4, cz5, cz6⟩ (by simp)).put)⟩
  clear cz1 cz2 cz3 cz4 cz5 cz6 hwu hc_s hB_s
  clear hv_1 hz_1 hb_1 hv_2 hz_2 hb_2 hv_3 hz_3 hb_3 hv_4 hb_4 hu_s D_1 E_1 D_2 E_2 D_3 D_4 E_4 hp3
  have BS := Lib.hid HU_s.out.1
  have x0_a := (HT.out.2.1.below BS.out).1.1
  have x1_a := (HT.out.2.1.below BS.out).2.1
  dsimp only at x0_a x1_a
  have x0_b := (HT.out.2.2.below BS.out).1.1
  have x1_b := (HT.out.2.2.below BS.out).2.1
  dsimp only at x0_b x1_b
  go_wp2_with fail
  refine (gadd_any HSA.out HSB.out).mono ?_
  rintro e v_p ⟨vp, er2, rfl, hvv_p, hb_p⟩
  clear x0_a x1_a x0_b x1_b
  obtain ⟨p1, p2⟩ := vp
  have HVP := hvv_p
  have hA_p := AtG.new (w := v_p) (z := (p1, p2)) rfl
  have hB_p : Below wu_s.heap.size wu_s (v_p.alloc (.cells #[.int .i64 p1, .int .i64 p2] 68)) := bt hb_p (belowA _ _)
  clear hvv_p hb_p
  dsimp only at hA_p
  go_upto_region 3 with fail
  generalize v_p.alloc (.cells #[.int .i64 p1, .int .i64 p2] 68) = w_p at *
  have HA_p := Lib.hid hA_p
  have HB_p := Lib.hid hB_p
  clear hA_p hB_p
  go_cut [51] from 41 to 51 (fun tv wx => tv = .bool false ∧ wx = w_p)
  case first =>
    have x0_s := (HU_s.out.2.below HB_p.out).1.1
    have x1_s := (HU_s.out.2.below HB_p.out).2.1
    dsimp only at x0_s x1_s
    have x0_p := (HA_p.out.below (Below.refl _ _)).1.1
    have x1_p := (HA_p.out.below (Below.refl _ _)).2.1
    dsimp only at x0_p x1_p
    rcases HVS.out with ⟨rfl, hs⟩ | rfl
    · rcases HVP.out.1 with ⟨rfl, hs2⟩ | rfl
      · have e := hs.trans hs2.symm
        injection e with e1 e2
        subst e1 e2
        have hne := fun (w : World) => num_same s1 s2 w
        have hgd := fun (op : BinOp) (x y : Operand) (xs ys : Array Value) (w : World) => num_guard op x y xs ys w
        clear hs hs2
        go_wp2_with fail
        go_meet
        case rel => exact ⟨rfl, rfl⟩
      · clear hs
        go_wp2_with fail
        go_meet
        case rel => exact ⟨rfl, rfl⟩
    · go_wp2_with fail
      go_meet
      case rel => exact ⟨rfl, rfl⟩
  case rest =>
    obtain ⟨rfl, hcut⟩ := hcut
    have hcut := hcut.symm
    subst hcut
    have BP := Lib.hid (BS.out.trans (HB_p.out.mono BS.out.size))
    clear HA_p HB_p HVS HVP HU_s BS
    go_wp2_with fail
    have x0_z := (HT.out.1.below BP.out).1.1
    have x1_z := (HT.out.1.below BP.out).2.1
    have y0_z := At.growB (HT.out.1.below BP.out).1
    have y1_z := At.growB (HT.out.1.below BP.out).2
    dsimp only at x0_z x1_z y0_z y1_z
    refine wp_region_fltR (KB w_p.heap.size) (KB.refl _) (KB.trans _) (KB.of_grow _) [(0, 0), (0, 2), (0, 5), (2, 10), (1, 1), (1, 3), (1, 4), (1, 6), (0, 7), (0, 8), (0, 9), (4, 10), (3, 11), (0, 12)] (by kernel_rfl) (by kernel_rfl) ?_
    repeat (refine flt_pas (by rfl) (fun K hK => ?_); go_simp; refine hK _ _ (fun w' hw' => (by first | (go_simp; done) | (go_simp; intro hh; cases hh))) ?_; clear hK K)
    refine flt_alloc w_p.heap.size 68 #[.int .i64 0, .int .i64 0] (by rfl) rfl (fun w1 => (by go_simp)) (Nat.le_refl _) ?_
    clear x0_z x1_z y0_z y1_z
    have HBW := Lib.hid (bt HB.out BP.out)
    refine flt_call (by rfl) (fun v_5 hv_5 K hK => ?_); go_simp; refine hK _ _ ?_; clear hK K
    have D_5 := bt (below_drewN w_p 1) hv_5.below
    refine (copyZ_any (HP.out.below (bt HBW.out D_5)) (by omega) (by omega)).mono ?_
    rintro e w_5 ⟨P_5, p_5, d_5, rfl, hz_5, hb_5⟩
    refine ⟨_, rfl, Grow.of_below hb_5, ?_⟩
    (refine flt_norm (fun K hK => ?_); go_simp; refine hK _ ?_; clear hK K)
    have E_5 := bt D_5 hb_5
    refine flt_call (by rfl) (fun v_6 hv_6 K hK => ?_); go_simp; refine hK _ _ ?_; clear hK K
    have D_6 := bt (E_5) hv_6.below
    refine (copyZ_any (HQ.out.below (bt HBW.out D_6)) (by omega) (by omega)).mono ?_
    rintro e w_6 ⟨P_6, p_6, d_6, rfl, hz_6, hb_6⟩
    refine ⟨_, rfl, Grow.of_below hb_6, ?_⟩
    (refine flt_norm (fun K hK => ?_); go_simp; refine hK _ ?_; clear hK K)
    have E_6 := bt D_6 hb_6
    refine flt_call (by rfl) (fun v_7 hv_7 K hK => ?_); go_simp; refine hK _ _ ?_; clear hK K
    have D_7 := bt E_6 hv_7.below
    refine (mulR (K := 2 * N + 3) (((hz_5.below hv_6.below).below hb_6).below hv_7.below) (hz_6.below hv_7.below) (by have := hz_5.len.1; have := HP.out.len.1; omega) (by have := hz_6.len.1; have := HQ.out.len.1; omega) (by omega) (by omega)).mono ?_
    rintro e w_7 ⟨P_7, p_7, d_7, rfl, hz_7, hb_7⟩
    refine ⟨_, rfl, Grow.of_below hb_7, ?_⟩
    (refine flt_norm (fun K hK => ?_); go_simp; refine hK _ ?_; clear hK K)
    have hp7 : p_7 ≤ 40 := by
      rw [hz_7.len]
      refine Nat.le_trans (ztr_le _) ?_
      rw [zmull_len]
      have h1 := ztr_le (rs.map zv)
      have h2 := ztr_le (rs2.map zv)
      rw [List.length_map, ← HP.out.len.1] at h1
      rw [List.length_map, ← HQ.out.len.1] at h2
      omega
    refine flt_call (by rfl) (fun v_8 hv_8 K hK => ?_); go_simp; refine hK _ _ ?_; clear hK K
    have D_8 := bt D_7 (bt hb_7 hv_8.below)
    have C := gvalue_any (z := (z1, z2)) (hz_7.below hv_8.below).c.inp HZ.out (by omega) (by omega)
    refine C.mono ?_
    rintro e w_8 ⟨vs, er3, rfl, hvs, hb_8⟩
    refine ⟨_, rfl, Grow.of_below hb_8, ?_⟩
    (refine flt_norm (fun K hK => ?_); go_simp; refine hK _ ?_; clear hK K)
    have HVS : Hid ((er3 = 0 ∧ vs = gmul (a1, a2) (b1, b2)) ∨ er3 = 13) := by
      rcases hvs.out with ⟨h1, h2, _⟩ | ⟨h1, _⟩
      · exact .inl ⟨h1, by rw [h2, gev_ztr, zco_map, gev_ztr, gev_zmull, gev_ztr, gev_ztr, HGA.out, HGB.out]⟩
      · exact .inr h1
    obtain ⟨s1, s2⟩ := vs
    have E_8 := bt D_8 hb_8
    clear C hvs
    repeat (refine flt_pas (by rfl) (fun K hK => ?_); go_simp; refine hK _ _ (fun w' hw' => (by first | (go_simp; done) | (go_simp; intro hh; cases hh))) ?_; clear hK K)
    refine flt_land (by rfl) (fun vv u_m hu_m hF => ?_)
    obtain ⟨b_m, rfl, hB_m, hc_m⟩ := hF
    (refine flt_norm (fun K hK => ?_); go_simp; refine hK _ ?_; clear hK K)
    obtain ⟨cz1, cz2, cz3⟩ := cel_of hc_m (j := 0) rfl
    obtain ⟨cz4, cz5, cz6⟩ := cel_of hc_m (j := 1) rfl
    (refine flt_actX (by rfl) (fun K hK => ?_); go_simp)
    refine hK _ _ ⟨KB.set2 hB_m, ?_⟩
    clear hK K
    (refine flt_norm (fun K hK => ?_); go_simp; refine hK _ ?_; clear hK K)
    repeat (refine flt_pas (by rfl) (fun K hK => ?_); go_simp; refine hK _ _ (fun w' hw' => (by first | (go_simp; done) | (go_simp; intro hh; cases hh))) ?_; clear hK K)
    refine flt_nil ?_
    obtain ⟨wu_m, hwu⟩ : ∃ wu : World, wu = (u_m.setCell ⟨b_m, 0, none⟩ (.int .i64 s1)).setCell ⟨b_m, 1, none⟩ (.int .i64 s2) := ⟨_, rfl⟩
    rw [← hwu]
    have HU_m : Hid (Below w_p.heap.size w_p wu_m ∧ AtG wu_m b_m (s1, s2)) := by
      rw [hwu]
      have k1 := bt (E_8) hu_m.below
      exact ⟨(k1.setCell (p := ⟨b_m, 0, none⟩) hB_m _).setCell (p := ⟨b_m, 1, none⟩) hB_m _, Cel.at ((Cel.put ⟨cz1, cz2, cz3⟩).set (by simp)), Cel.at ((Cel.set ⟨cz4, cz5, cz6⟩ (by simp)).put)⟩
    clear cz1 cz2 cz3 cz4 cz5 cz6 hwu hc_m hB_m
    clear hv_5 hz_5 hb_5 hv_6 hz_6 hb_6 hv_7 hz_7 hb_7 hv_8 hb_8 hu_m D_5 E_5 D_6 E_6 D_7 D_8 E_8 hp7 HBW
    have BS := Lib.hid (bt BP.out HU_m.out.1)
    have x0_a := (HT.out.2.1.below BS.out).1.1
    have x1_a := (HT.out.2.1.below BS.out).2.1
    dsimp only at x0_a x1_a
    have x0_b := (HT.out.2.2.below BS.out).1.1
    have x1_b := (HT.out.2.2.below BS.out).2.1
    dsimp only at x0_b x1_b
    go_wp2_with fail
    refine (gmul_any HSA.out HSB.out).mono ?_
    rintro e v_t ⟨vp, er4, rfl, hvv_t, hb_t⟩
    clear x0_a x1_a x0_b x1_b
    obtain ⟨t1, t2⟩ := vp
    have HVP := hvv_t
    have hA_t := AtG.new (w := v_t) (z := (t1, t2)) rfl
    have hB_t : Below wu_m.heap.size wu_m (v_t.alloc (.cells #[.int .i64 t1, .int .i64 t2] 68)) := bt hb_t (belowA _ _)
    clear hvv_t hb_t
    dsimp only at hA_t
    go_upto_region 7 with fail
    generalize v_t.alloc (.cells #[.int .i64 t1, .int .i64 t2] 68) = w_t at *
    have HA_t := Lib.hid hA_t
    have HB_t := Lib.hid hB_t
    clear hA_t hB_t
    go_cut [78] from 68 to 78 (fun tv wx => tv = .bool false ∧ wx = w_t)
    case first =>
      have x0_s := (HU_m.out.2.below HB_t.out).1.1
      have x1_s := (HU_m.out.2.below HB_t.out).2.1
      dsimp only at x0_s x1_s
      have x0_p := (HA_t.out.below (Below.refl _ _)).1.1
      have x1_p := (HA_t.out.below (Below.refl _ _)).2.1
      dsimp only at x0_p x1_p
      rcases HVS.out with ⟨rfl, hs⟩ | rfl
      · rcases HVP.out.1 with ⟨rfl, hs2⟩ | rfl
        · have e := hs.trans hs2.symm
          injection e with e1 e2
          subst e1 e2
          have hne := fun (w : World) => num_same s1 s2 w
          have hgd := fun (op : BinOp) (x y : Operand) (xs ys : Array Value) (w : World) => num_guard op x y xs ys w
          clear hs hs2
          go_wp2_with fail
          go_meet
          case rel => exact ⟨rfl, rfl⟩
        · clear hs
          go_wp2_with fail
          go_meet
          case rel => exact ⟨rfl, rfl⟩
      · go_wp2_with fail
        go_meet
        case rel => exact ⟨rfl, rfl⟩
    case rest =>
      obtain ⟨rfl, hcut⟩ := hcut
      have hcut := hcut.symm
      subst hcut
      have BT := Lib.hid (bt BS.out HB_t.out)
      clear HB_t HVS HU_m BS
      have x0_z := (HT.out.1.below BT.out).1.1
      have x1_z := (HT.out.1.below BT.out).2.1
      dsimp only at x0_z x1_z
      go_wp2_with fail
      refine (show Calls Try.prog 72 #[gv (z1, z2)] _ (GTwo (z1, -z2) 0 _) from gconj_yes HZ.out).mono ?_
      rintro e v_c ⟨rfl, hb_c⟩
      have hA_c := AtG.new (w := v_c) (z := (z1, -z2)) rfl
      have hB_c : Below w_t.heap.size w_t (v_c.alloc (.cells #[.int .i64 z1, .int .i64 (-z2)] 68)) := bt hb_c (belowA _ _)
      clear hb_c x0_z x1_z
      dsimp only at hA_c
      go_upto_region 10 with fail
      generalize v_c.alloc (.cells #[.int .i64 z1, .int .i64 (-z2)] 68) = w_c at *
      have HA_c := Lib.hid hA_c
      have HT_c := Lib.hid (HA_t.out.below hB_c)
      have BC := Lib.hid (bt BT.out hB_c)
      clear hA_c hB_c HA_t BT
      have HZC : Hid (gsz (z1, -z2) < GM ∧ gfold (max (gsz (z1, -z2)) 1) (ztr (rs.map zv)) = some sp) := by
        have e : gsz (z1, -z2) = gsz (z1, z2) := gsz_cj (z1, z2)
        exact ⟨by rw [e]; exact HZ.out, by rw [e]; exact HFP.out⟩
      have HBW := Lib.hid (bt HB.out BC.out)
      go_wp2_with fail
      have x0_z := (HA_c.out.below (Below.refl _ _)).1.1
      have x1_z := (HA_c.out.below (Below.refl _ _)).2.1
      have y0_z := At.growB (HA_c.out.below (Below.refl _ _)).1
      have y1_z := At.growB (HA_c.out.below (Below.refl _ _)).2
      dsimp only at x0_z x1_z y0_z y1_z
      refine wp_region_fltR (KB w_c.heap.size) (KB.refl _) (KB.trans _) (KB.of_grow _) [(0, 0), (0, 2), (2, 7), (1, 1), (1, 3), (0, 4), (0, 5), (0, 6), (4, 7), (3, 8), (0, 9)] (by kernel_rfl) (by kernel_rfl) ?_
      repeat (refine flt_pas (by rfl) (fun K hK => ?_); go_simp; refine hK _ _ (fun w' hw' => (by first | (go_simp; done) | (go_simp; intro hh; cases hh))) ?_; clear hK K)
      refine flt_alloc w_c.heap.size 68 #[.int .i64 0, .int .i64 0] (by rfl) rfl (fun w1 => (by go_simp)) (Nat.le_refl _) ?_
      clear x0_z x1_z y0_z y1_z
      refine flt_call (by rfl) (fun v_9 hv_9 K hK => ?_); go_simp; refine hK _ _ ?_; clear hK K
      have D_9 := bt (below_drewN w_c 1) hv_9.below
      refine (copyZ_any (HP.out.below (bt HBW.out D_9)) (by omega) (by omega)).mono ?_
      rintro e w_9 ⟨P_9, p_9, d_9, rfl, hz_9, hb_9⟩
      refine ⟨_, rfl, Grow.of_below hb_9, ?_⟩
      (refine flt_norm (fun K hK => ?_); go_simp; refine hK _ ?_; clear hK K)
      have E_9 := bt D_9 hb_9
      refine flt_call (by rfl) (fun v_10 hv_10 K hK => ?_); go_simp; refine hK _ _ ?_; clear hK K
      have D_10 := bt E_9 hv_10.below
      have C := gvalue_any (z := (z1, -z2)) (hz_9.below hv_10.below) HZC.out.1 (by omega) (by have := hz_9.len.1; have := HP.out.len.1; omega)
      refine C.mono ?_
      rintro e w_10 ⟨vs, er5, rfl, hvs, hb_10⟩
      refine ⟨_, rfl, Grow.of_below hb_10, ?_⟩
      (refine flt_norm (fun K hK => ?_); go_simp; refine hK _ ?_; clear hK K)
      have hvs2 : er5 = 0 ∧ vs = (a1, -a2) := by
        rcases hvs.out with ⟨h1, h2, _⟩ | ⟨_, _, h3⟩
        · refine ⟨h1, ?_⟩
          rw [h2, gev_ztr]
          show gev (rs.map zv) (gcj (z1, z2)) = gcj (a1, a2)
          rw [gev_cj, HGA.out]
        · rw [HZC.out.2] at h3; cases h3
      obtain ⟨rfl, rfl⟩ := hvs2
      have E_10 := bt D_10 hb_10
      clear C hvs
      repeat (refine flt_pas (by rfl) (fun K hK => ?_); go_simp; refine hK _ _ (fun w' hw' => (by first | (go_simp; done) | (go_simp; intro hh; cases hh))) ?_; clear hK K)
      refine flt_land (by rfl) (fun vv u_d hu_d hF => ?_)
      obtain ⟨b_d, rfl, hB_d, hc_d⟩ := hF
      (refine flt_norm (fun K hK => ?_); go_simp; refine hK _ ?_; clear hK K)
      obtain ⟨cz1, cz2, cz3⟩ := cel_of hc_d (j := 0) rfl
      obtain ⟨cz4, cz5, cz6⟩ := cel_of hc_d (j := 1) rfl
      (refine flt_actX (by rfl) (fun K hK => ?_); go_simp)
      refine hK _ _ ⟨KB.set2 hB_d, ?_⟩
      clear hK K
      (refine flt_norm (fun K hK => ?_); go_simp; refine hK _ ?_; clear hK K)
      repeat (refine flt_pas (by rfl) (fun K hK => ?_); go_simp; refine hK _ _ (fun w' hw' => (by first | (go_simp; done) | (go_simp; intro hh; cases hh))) ?_; clear hK K)
      refine flt_nil ?_
      obtain ⟨wu_d, hwu⟩ : ∃ wu : World, wu = (u_d.setCell ⟨b_d, 0, none⟩ (.int .i64 a1)).setCell ⟨b_d, 1, none⟩ (.int .i64 (-a2)) := ⟨_, rfl⟩
      rw [← hwu]
      have HU_d : Hid (Below w_c.heap.size w_c wu_d ∧ AtG wu_d b_d (a1, (-a2))) := by
        rw [hwu]
        have k1 := bt (E_10) hu_d.below
        exact ⟨(k1.setCell (p := ⟨b_d, 0, none⟩) hB_d _).setCell (p := ⟨b_d, 1, none⟩) hB_d _, Cel.at ((Cel.put ⟨cz1, cz2, cz3⟩).set (by simp)), Cel.at ((Cel.set ⟨cz4, cz5, cz6⟩ (by simp)).put)⟩
      clear cz1 cz2 cz3 cz4 cz5 cz6 hwu hc_d hB_d
      clear hv_9 hz_9 hb_9 hv_10 hb_10 hu_d D_9 E_9 D_10 E_10 HBW
      have BD := Lib.hid (bt BC.out HU_d.out.1)
      have HT_d := Lib.hid (HT_c.out.below HU_d.out.1)
      clear HT_c
      have x0_z := (HT.out.2.1.below BD.out).1.1
      have x1_z := (HT.out.2.1.below BD.out).2.1
      dsimp only at x0_z x1_z
      go_wp2_with fail
      refine (show Calls Try.prog 72 #[gv (a1, a2)] _ (GTwo (a1, -a2) 0 _) from gconj_yes HSA.out).mono ?_
      rintro e v_f ⟨rfl, hb_f⟩
      have hA_f := AtG.new (w := v_f) (z := (a1, -a2)) rfl
      have hB_f : Below wu_d.heap.size wu_d (v_f.alloc (.cells #[.int .i64 a1, .int .i64 (-a2)] 68)) := bt hb_f (belowA _ _)
      clear hb_f x0_z x1_z
      dsimp only at hA_f
      go_upto_region 12 with fail
      generalize v_f.alloc (.cells #[.int .i64 a1, .int .i64 (-a2)] 68) = w_f at *
      have HA_f := Lib.hid hA_f
      have HT_f := Lib.hid (HT_d.out.below hB_f)
      have HD_f := Lib.hid (HU_d.out.2.below hB_f)
      have BF := Lib.hid (bt BD.out hB_f)
      clear hA_f hB_f HT_d HU_d BD
      have x0_s := (HD_f.out.below (Below.refl _ _)).1.1
      have x1_s := (HD_f.out.below (Below.refl _ _)).2.1
      dsimp only at x0_s x1_s
      have x0_p := (HA_f.out.below (Below.refl _ _)).1.1
      have x1_p := (HA_f.out.below (Below.refl _ _)).2.1
      dsimp only at x0_p x1_p
      have hne := fun (w : World) => num_same a1 (-a2) w
      have hgd := fun (op : BinOp) (x y : Operand) (xs ys : Array Value) (w : World) => num_guard op x y xs ys w
      go_upto_region 14 with fail
      clear x0_s x1_s x0_p x1_p hne hgd
      have x0_z := (HT.out.2.1.below BF.out).1.1
      have x1_z := (HT.out.2.1.below BF.out).2.1
      dsimp only at x0_z x1_z
      go_wp2_with fail
      refine (gnorm_any HSA.out).mono ?_
      rintro e v_g ⟨nm, e1, rfl, h1, hb_g⟩
      have BG := Lib.hid (bt BF.out hb_g)
      have HT_g := Lib.hid (HT_f.out.below hb_g)
      clear x0_z x1_z hb_g HT_f BF
      have x0_z := (HT.out.2.2.below BG.out).1.1
      have x1_z := (HT.out.2.2.below BG.out).2.1
      dsimp only at x0_z x1_z
      go_wp2_with fail
      refine (gnorm_any HSB.out).mono ?_
      rintro e v_h ⟨nn, e2, rfl, h2, hb_h⟩
      have BH := Lib.hid (bt BG.out hb_h)
      have HT_h := Lib.hid (HT_g.out.below hb_h)
      clear x0_z x1_z hb_h HT_g BG
      have x0_z := (HT_h.out.below (Below.refl _ _)).1.1
      have x1_z := (HT_h.out.below (Below.refl _ _)).2.1
      dsimp only at x0_z x1_z
      go_wp2_with fail
      refine (gnorm_any HVP.out.2).mono ?_
      rintro e v_i ⟨nk, e3, rfl, h3, hb_i⟩
      have HF := Lib.hid (bt HB.out (bt BH.out hb_i))
      clear x0_z x1_z hb_i HT_h BH
      rcases HVP.out.1 with ⟨rfl, ht⟩ | rfl
      · rcases h1.out with ⟨rfl, hm⟩ | rfl
        · rcases h2.out with ⟨rfl, hn'⟩ | rfl
          · rcases h3.out with ⟨rfl, hk⟩ | rfl
            · have hw : IntKind.i64.wrap (nm * nn) = nk := by
                have e : nm * nn = nk := by rw [hm.1, hn'.1, hk.1, ht, gnm_mul]
                rw [e, IntKind.wrap_i64]
                omega
              clear hm hn' hk ht h1 h2 h3
              go_wp2
              go_ret
              exact ⟨by simp, HF.out⟩
            · clear hm hn' ht h1 h2 h3
              go_wp2
              go_ret
              exact ⟨by simp, HF.out⟩
          · clear hm ht h1 h2 h3
            go_wp2
            go_ret
            exact ⟨by simp, HF.out⟩
        · clear ht h1 h2 h3
          go_wp2
          go_ret
          exact ⟨by simp, HF.out⟩
      · clear h1 h2 h3
        go_wp2
        go_ret
        exact ⟨by simp, HF.out⟩
end Go.Proofs.Ytphofjinncbaaaa
namespace Go.Proofs.Ytphofjinncbaaaa
open Go.RowKit
set_option linter.unusedVariables false
set_option linter.unusedSimpArgs false

set_option maxHeartbeats 1000000 in
theorem whole_pos {x : Nat} (h0 : 0 < x) (hx : x ≤ 1000) {w : World} : Calls Try.prog 20 #[.int .i64 (x : Int)] w (GI w (x : Int) 1) := by
  have e : dg W (Int.natAbs (x : Int)) = [x] := by
    rw [show Int.natAbs (x : Int) = x by omega]
    exact dg_small h0 (by rw [W_eq]; omega)
  have d0 : ((x : Int) == (0 : Int)) = false := by simp; omega
  have d0' : decide ((x : Int) = 0) = false := decide_eq_false (by omega)
  have d1 : decide ((x : Int) < 0) = false := decide_eq_false (by omega)
  have hw1 : IntKind.i64.wrap (-(x : Int)) = -(x : Int) := by rw [IntKind.wrap_i64]; omega
  have hw2 : IntKind.u64.wrap (x : Int) = (x : Int) := by rw [IntKind.wrap_u64]; omega
  have hw3 : IntKind.i64.wrap (x : Int) = (x : Int) := by rw [IntKind.wrap_i64]; omega
  have HE := Lib.hid e
  clear e
  go_enter Try.func20, Try.ntmps20
  go_wp2
  refine bodyPost_ret (v := .agg #[.bool false, .slice (some ⟨w.heap.size + 1, 0, none⟩) 1 1]) (by simp [results, Try.results20, go_sem]) rfl ?_
  have o := Own.lit (k := .u64) (t := 76) (B := w.heap.size) (w.alloc (.cells #[.bool false, .slice (some ⟨w.heap.size + 1, 0, none⟩) 1 1] 47)) [x] (by simp [maxLen]) (by simp)
  simp only [World.size_alloc, List.length_cons, List.length_nil, Nat.zero_add] at o
  exact ⟨_, 1, 1, false, rfl, d1.symm, by rw [HE.out]; exact o, bt (belowA _ _) (belowA _ _), Nat.le_refl _⟩
set_option maxHeartbeats 1000000 in
theorem whole_neg {x : Nat} (h0 : 0 < x) (hx : x ≤ 1000) {w : World} : Calls Try.prog 20 #[.int .i64 (-(x : Int))] w (GI w (-(x : Int)) 1) := by
  have e : dg W (Int.natAbs (-(x : Int))) = [x] := by
    rw [show Int.natAbs (-(x : Int)) = x by omega]
    exact dg_small h0 (by rw [W_eq]; omega)
  have d0 : ((-(x : Int)) == (0 : Int)) = false := by simp; omega
  have d0' : decide ((-(x : Int)) = 0) = false := decide_eq_false (by omega)
  have d1 : decide ((-(x : Int)) < 0) = true := decide_eq_true (by omega)
  have hw1 : IntKind.i64.wrap (-(-(x : Int))) = -(-(x : Int)) := by rw [IntKind.wrap_i64]; omega
  have hw2 : IntKind.u64.wrap (x : Int) = (x : Int) := by rw [IntKind.wrap_u64]; omega
  have hw3 : IntKind.i64.wrap (x : Int) = (x : Int) := by rw [IntKind.wrap_i64]; omega
  have HE := Lib.hid e
  clear e
  go_enter Try.func20, Try.ntmps20
  go_wp2
  refine bodyPost_ret (v := .agg #[.bool true, .slice (some ⟨w.heap.size + 1, 0, none⟩) 1 1]) (by simp [results, Try.results20, go_sem]) rfl ?_
  have o := Own.lit (k := .u64) (t := 76) (B := w.heap.size) (w.alloc (.cells #[.bool true, .slice (some ⟨w.heap.size + 1, 0, none⟩) 1 1] 47)) [x] (by simp [maxLen]) (by simp)
  simp only [World.size_alloc, List.length_cons, List.length_nil, Nat.zero_add] at o
  exact ⟨_, 1, 1, true, rfl, d1.symm, by rw [HE.out]; exact o, bt (belowA _ _) (belowA _ _), Nat.le_refl _⟩
theorem whole_all {z : Int} (hz : z.natAbs ≤ 1000) {w : World} : Calls Try.prog 20 #[.int .i64 z] w (GI w z 1) := by
  rcases Nat.eq_zero_or_pos z.natAbs with h0 | h0
  · obtain rfl : z = 0 := by omega
    exact whole_0
  · rcases Int.lt_or_le z 0 with h | h
    · have e : z = -((z.natAbs : Nat) : Int) := by omega
      rw [e]
      exact whole_neg h0 hz
    · have e : z = ((z.natAbs : Nat) : Int) := by omega
      rw [e]
      exact whole_pos h0 hz
set_option maxHeartbeats 4000000 in
theorem polyZ_any {A : Option Addr} {n c : Nat} {zs : List Int} {w : World} (h : RdK 1 w A n c (zvl zs)) (hl : n = zs.length) (hx : ∀ z ∈ zs, z.natAbs ≤ 1000) (hn : n ≤ 1073741824) :
    Calls Try.prog 19 #[.slice A n c] w (GZP w 1 zs) := by
  have H := Lib.hid h
  have HNQ := Lib.hid hl
  have HX := Lib.hid hx
  clear h hx hl
  go_enter Try.func19, Try.ntmps19
  go_wp2
  go_loopw [3, 9] (fun ov kv wr => ∃ (i : Nat) (A' : Option Addr) (c' : Nat), Hid (ZI w.heap.size w 1 (zs.take i) A' i c' wr) ∧ i ≤ n ∧ ov = .slice A' i c' ∧ kv = .int .i64 (i : Int)) (fun _ kv _ => n - (intOf kv).toNat)
  case atStart => exact ⟨0, _, _, ⟨⟨[], by have := RowK.lit (k := 2) (T := 47) (B := w.heap.size) w 0 [] rfl rfl (by omega) (Nat.le_refl _); simpa using this, by simpa using All2.nil⟩, belowA _ _⟩, Nat.zero_le _, rfl, rfl⟩
  case round =>
    obtain ⟨i, A', c', hI, hi, rfl, rfl⟩ := hrel
    by_cases hlt : i < n
    · have hix : i < zs.length := by have := HNQ.out; omega
      obtain ⟨z, hz⟩ : ∃ z, zs[i]? = some z := ⟨_, List.getElem?_eq_getElem hix⟩
      have C := Lib.hid fun (w' : World) => whole_all (z := z) (HX.out _ (List.mem_of_getElem? hz)) (w := w')
      have HQ := Lib.hid hz
      obtain ⟨b, off, e, hb, hc⟩ := (H.out.below hI.out.2).2 (by omega)
      subst e
      have hcz := hc i (by omega)
      rw [show (zvl zs)[i]? = some (.int .i64 z) by unfold zvl; rw [List.getElem?_map, hz]; rfl] at hcz
      have i1 : (0 : Int) ≤ (i : Int) := by omega
      have i2 : (i : Int) < (n : Int) := by omega
      clear hz hc
      go_wp2_with fail
      refine (C.out _).mono ?_
      rintro e w1 ⟨A3, n3, c3, s3, rfl, hs3, o3, hb1, l3⟩
      have HI1 := Lib.hid (hI.out.below hb1)
      have HC3 : Hid (CanZ w.heap.size 1 w1 (s3, (A3, n3, c3)) z) := ⟨hs3.out, o3.mono hI.out.2.size, l3⟩
      clear hb1 o3 hcz hI C hs3
      go_wp2_with (at_builtin; (refine wpList_appZ1 (w0 := w) (s3, (A3, n3, c3)) rfl (.tmp 13) (.tmp 16) rfl rfl rfl (HI1.out.below (belowA _ _)) (RowK.lit (k := 2) (T := 47) (B := 0) w1 1 [.bool s3, .slice A3 n3 c3] (by simp) rfl (by omega) (Nat.zero_le _)).rd (HC3.out.below (belowA _ _)) (by omega) (by have := HI1.out.2.size; simp; omega) (Nat.le_refl _) ?_); intro A4 c4 w4 hz4; have HN : Hid (ZI w.heap.size w 1 (zs.take (i + 1)) A4 (i + 1) c4 w4) := (by rw [take_snoc HQ.out]; exact hz4); clear hz4)
      go_roundw
      case rel => exact ⟨i + 1, A4, c4, HN, by omega, rfl, by go_num⟩
      case measure => simp [intOf]; omega
    · obtain rfl : i = n := by omega
      have HF := hI
      clear hI
      go_wp2
      go_ret
      have h1 := HF.out
      rw [List.take_of_length_le (by have := HNQ.out; omega)] at h1
      exact ⟨A', i, c', rfl, h1.poly HNQ.out, h1.2⟩
/-- what Value answers at any Gaussian integer -/
def GValZ (z : Gz) (zs : List Int) (w : World) (e : Ending) (w' : World) : Prop :=
  ∃ (v : Gz) (er : Int), e = .returned (.tuple #[gv v, .int .i64 er]) ∧ Hid ((er = 0 ∧ gsz z < GM ∧ v = gev zs z ∧ (∃ st, gfold (max (gsz z) 1) zs = some st)) ∨ er = 13) ∧ Below w.heap.size w w'
set_option maxHeartbeats 1000000 in
theorem gvalue_big {z : Gz} {A : Option Addr} {n c : Nat} {w : World} (hz : ¬ gsz z < GM) (h64 : G64 z) : Calls Try.prog 35 #[.slice A n c, gv z] w (GTwo (0, 0) 13 w) := by
  have C1 := Lib.hid fun (w : World) => gsize_no (w := w) hz h64
  clear hz h64
  obtain ⟨zx, zy⟩ := z
  go_enter Try.func35, Try.ntmps35
  have e0 := ((At.boxc (i := 0) (v := .int .i64 zx) (t := 68) (b := w.heap.size) w #[.int .i64 zx, .int .i64 zy] rfl (by simp)).below ((Below.refl _ _).alloc (Nat.le_refl _) (.cells #[.int .i64 0, .int .i64 0] 68))).1
  have e1 := ((At.boxc (i := 1) (v := .int .i64 zy) (t := 68) (b := w.heap.size) w #[.int .i64 zx, .int .i64 zy] rfl (by simp)).below ((Below.refl _ _).alloc (Nat.le_refl _) (.cells #[.int .i64 0, .int .i64 0] 68))).1
  go_wp2_with fail
  refine (C1.out _).mono ?_
  rintro e w1 ⟨rfl, hb1⟩
  clear e0 e1 C1
  have c1 := ((Cel.box (i := 0) (v := .int .i64 0) (t := 68) (b := w.heap.size + 1) (World.alloc w (.cells #[.int .i64 zx, .int .i64 zy] 68)) #[.int .i64 0, .int .i64 0] rfl (by simp)).below hb1)
  have c2 := ((Cel.box (i := 1) (v := .int .i64 0) (t := 68) (b := w.heap.size + 1) (World.alloc w (.cells #[.int .i64 zx, .int .i64 zy] 68)) #[.int .i64 0, .int .i64 0] rfl (by simp)).below hb1)
  obtain ⟨c1a, c1b, c1c⟩ := c1
  obtain ⟨c2a, c2b, c2c⟩ := c2
  have HB := Lib.hid (bt (bt ((Below.refl _ _).alloc (Nat.le_refl _) (.cells #[.int .i64 zx, .int .i64 zy] 68)) ((Below.refl _ _).alloc (Nat.le_refl _) (.cells #[.int .i64 0, .int .i64 0] 68))) hb1)
  go_wp2
  refine bodyPost_ret (v := .tuple #[gv (0, 0), .int .i64 13]) (by simp [results, Try.results35, go_sem, c1a, c2a]) rfl ?_
  exact ⟨rfl, below_cells2 HB.out (by omega)⟩
theorem gvalueZ_any {z : Gz} {A : Option Addr} {n c L : Nat} {rs : List Zc} {w : World} (h : ZPI L w (.slice A n c) rs) (h64 : G64 z) (hL : L ≤ 1099511627776) (hn : n ≤ 1048576) :
    Calls Try.prog 35 #[.slice A n c, gv z] w (GValZ z (ztr (rs.map zv)) w) := by
  by_cases hz : gsz z < GM
  · refine (gvalue_any h hz hL hn).mono fun e w' ⟨v, er, h1, h2, h3⟩ => ⟨v, er, h1, ?_, h3⟩
    rcases h2.out with ⟨h4, h5, h6⟩ | ⟨h4, _⟩
    · exact .inl ⟨h4, hz, h5, h6⟩
    · exact .inr h4
  · exact (gvalue_big hz h64).mono fun e w' ⟨h1, h2⟩ => ⟨_, 13, h1, .inr rfl, h2⟩
theorem gfold_i2 : ∃ st, gfold (max (gsz (0, 1)) 1) (ztr [1, 0, 1]) = some st := ⟨_, rfl⟩
theorem gev_i2 : gev (ztr [1, 0, 1]) (0, 1) = (0, 0) := by rfl
theorem clamp100 (z : Int) : -100 ≤ clampI z (-100) 100 ∧ clampI z (-100) 100 ≤ 100 := by unfold clampI; split <;> (try split) <;> omega
theorem clamp200 (z : Int) : ∃ r : Nat, clampI z 1 200 = (r : Int) ∧ 1 ≤ r ∧ r ≤ 200 := by
  refine ⟨(clampI z 1 200).toNat, ?_, ?_, ?_⟩ <;> · unfold clampI; split <;> (try split) <;> omega
theorem ZPI.takeG {L n c k : Nat} {A : Option Addr} {w : World} {rs : List Zc} (h : ZPI L w (.slice A n c) rs) (hk : k ≤ n) : ZPI L w (.slice A k c) (rs.take k) := by
  obtain ⟨_, _, _, hs, e, h1, h2, h3⟩ := h
  injection e with e1 e2 e3
  subst e1 e2 e3
  have hl : hs.length = rs.length := h3.1
  have flatl : ∀ l : List Hz, (l.flatMap zhv).length = l.length * 2 := by
    intro l
    induction l with
    | nil => rfl
    | cons y l ih => rw [List.flatMap_cons, List.length_append, ih, zhv_len, List.length_cons]; omega
  refine ⟨A, k, c, hs.take k, rfl, ⟨⟨?_, by have := h1.1.2; omega⟩, fun h0 => ?_⟩, by rw [List.length_take]; omega, ?_⟩
  · rw [flatl, List.length_take]; omega
  · obtain ⟨b, off, e, hb, hc⟩ := h1.2 (by omega)
    refine ⟨b, off, e, hb, fun i hi => ?_⟩
    rw [hc i (by omega)]
    have hsplit : hs.flatMap zhv = (hs.take k).flatMap zhv ++ (hs.drop k).flatMap zhv := by rw [← List.flatMap_append, List.take_append_drop]
    have : ((hs.take k).flatMap zhv).length = k * 2 := by rw [flatl, List.length_take]; omega
    rw [hsplit, List.getElem?_append_left (by omega)]
  · refine ⟨by simp [hl], fun i a b ha hb => ?_⟩
    rw [List.getElem?_take] at ha hb
    split at ha
    · rename_i hi
      rw [if_pos hi] at hb
      exact h3.2 i a b ha hb
    · cases ha
set_option maxRecDepth 100000 in
set_option maxHeartbeats 16000000 in
theorem surdGauss_any {A A2 : Option Addr} {n c n2 c2 N : Nat} {rs rs2 : List Zc} {re im ro ha : Int} {w : World} (h : ZPI N w (.slice A n c) rs) (h2 : ZPI N w (.slice A2 n2 c2) rs2) (hN : N ≤ 1048576) (hn : n ≤ 1048576) (hn2 : n2 ≤ 1048576) (h64 : G64 (re, im)) :
    Calls Try.prog 5 #[.slice A n c, .slice A2 n2 c2, .agg #[.int .i64 re, .int .i64 im, .int .i64 ro, .int .i64 ha]] w (Keeps (.bool true) w) := by
  have HP := Lib.hid h
  have HQ := Lib.hid h2
  have H64 := Lib.hid h64
  clear h h2 h64
  go_enter Try.func5, Try.ntmps5
  have hT : At (World.alloc w (.cells #[.int .i64 re, .int .i64 im, .int .i64 ro, .int .i64 ha] 66)) ⟨w.heap.size, 0, none⟩ (.int .i64 re) ∧ At (World.alloc w (.cells #[.int .i64 re, .int .i64 im, .int .i64 ro, .int .i64 ha] 66)) ⟨w.heap.size, 1, none⟩ (.int .i64 im) ∧ At (World.alloc w (.cells #[.int .i64 re, .int .i64 im, .int .i64 ro, .int .i64 ha] 66)) ⟨w.heap.size, 2, none⟩ (.int .i64 ro) ∧ At (World.alloc w (.cells #[.int .i64 re, .int .i64 im, .int .i64 ro, .int .i64 ha] 66)) ⟨w.heap.size, 3, none⟩ (.int .i64 ha) := ⟨(At.boxc (i := 0) (v := .int .i64 re) (t := 66) (b := w.heap.size) w #[.int .i64 re, .int .i64 im, .int .i64 ro, .int .i64 ha] rfl (by simp)), (At.boxc (i := 1) (v := .int .i64 im) (t := 66) (b := w.heap.size) w #[.int .i64 re, .int .i64 im, .int .i64 ro, .int .i64 ha] rfl (by simp)), (At.boxc (i := 2) (v := .int .i64 ro) (t := 66) (b := w.heap.size) w #[.int .i64 re, .int .i64 im, .int .i64 ro, .int .i64 ha] rfl (by simp)), (At.boxc (i := 3) (v := .int .i64 ha) (t := 66) (b := w.heap.size) w #[.int .i64 re, .int .i64 im, .int .i64 ro, .int .i64 ha] rfl (by simp))⟩
  have hB0 : Below w.heap.size w (World.alloc w (.cells #[.int .i64 re, .int .i64 im, .int .i64 ro, .int .i64 ha] 66)) := ((Below.refl _ _).alloc (Nat.le_refl _) (.cells #[.int .i64 re, .int .i64 im, .int .i64 ro, .int .i64 ha] 66))
  have o1 := RowK.lit (b := w.heap.size + 1) (k := 1) (T := 3) (B := 0) (World.alloc w (.cells #[.int .i64 re, .int .i64 im, .int .i64 ro, .int .i64 ha] 66)) 3 [.int .i64 1, .int .i64 0, .int .i64 1] (by simp) rfl (by omega) (Nat.zero_le _)
  go_wp2_with fail
  have o2 : RdK 1 _ (some ⟨w.heap.size + 1, 0, none⟩) 3 3 (zvl [1, 0, 1]) := o1.rd
  refine (polyZ_any (zs := [1, 0, 1]) o2 rfl (by decide) (by omega)).mono ?_
  rintro e v1 ⟨P1, p1, d1, rfl, hz1, hb1⟩
  have hp1 := hz1.len
  have CV := gvalue_any (z := (0, 1)) hz1.c.inp (by unfold gsz GM; decide) (by omega) (by rw [hp1]; simp)
  rw [zco_map] at CV
  have hb1' := bt (belowA _ _) hb1
  clear o1 o2 hz1 hb1 hp1
  go_wp2_with fail
  refine CV.mono ?_
  rintro e v2 ⟨vi, er, rfl, hvi, hb2⟩
  have hvi2 : er = 0 ∧ vi = (0, 0) := by
    rcases hvi.out with ⟨h1, h2, _⟩ | ⟨_, _, h3⟩
    · exact ⟨h1, h2.trans gev_i2⟩
    · obtain ⟨st, h4⟩ := gfold_i2
      rw [h3] at h4; cases h4
  obtain ⟨rfl, rfl⟩ := hvi2
  have hB2 := bt hb1' hb2
  have hA2 := AtG.new (w := v2) (z := (0, 0)) rfl
  dsimp only at hA2
  have hne := fun (w : World) => num_same 0 0 w
  have hgd := fun (op : BinOp) (x y : Operand) (xs ys : Array Value) (w : World) => num_guard op x y xs ys w
  have x0 := hA2.1.1
  have x1 := hA2.2.1
  dsimp only at x0 x1
  go_upto_region 4 with fail
  clear hne hgd x0 x1 hA2 CV hvi
  have hB3 := bt hB2 (belowA v2 (.cells #[.int .i64 0, .int .i64 0] 68))
  have hT3 := And.intro (hT.1.below hB3) (And.intro (hT.2.1.below hB3) (And.intro (hT.2.2.1.below hB3) (hT.2.2.2.below hB3)))
  have hB4 := bt hB0 hB3
  generalize v2.alloc (.cells #[.int .i64 0, .int .i64 0] 68) = w3 at *
  have HT := Lib.hid hT3
  have HB := Lib.hid hB4
  clear hT hB0 hB2 hB3 hT3 hB4 hb1' hb2
  go_upto_if 35 with fail
  have hcn : n ≤ c := HP.out.len.2
  go_cut [0] from 33 to 37 (fun v wx => ∃ m, v = .slice A m c ∧ m = min n 20 ∧ wx = w3)
  case first =>
    by_cases hlt : 20 < n
    · have d1 : decide ((20 : Int) < (n : Int)) = true := decide_eq_true (by omega)
      have d2 : (20 : Int) ≤ (c : Int) := by omega
      go_wp2_with fail
      go_meet
      case rel => exact ⟨20, rfl, by omega, rfl⟩
    · have d1 : decide ((20 : Int) < (n : Int)) = false := decide_eq_false (by omega)
      go_wp2_with fail
      go_meet
      case rel => exact ⟨n, rfl, by omega, rfl⟩
  case rest =>
    obtain ⟨m, rfl, hm, hcut⟩ := hcut
    have hcut := hcut.symm
    subst hcut
    have HM : Hid (ZPI N w (.slice A m c) (rs.take m)) := HP.out.takeG (by omega)
    have hm20 : m ≤ 20 := by omega
    clear hm hcn HP
    go_upto_if 40 with fail
    have hcn : n2 ≤ c2 := HQ.out.len.2
    go_cut [1] from 38 to 42 (fun v wx => ∃ m2, v = .slice A2 m2 c2 ∧ m2 = min n2 20 ∧ wx = w3)
    case first =>
      by_cases hlt : 20 < n2
      · have d1 : decide ((20 : Int) < (n2 : Int)) = true := decide_eq_true (by omega)
        have d2 : (20 : Int) ≤ (c2 : Int) := by omega
        go_wp2_with fail
        go_meet
        case rel => exact ⟨20, rfl, by omega, rfl⟩
      · have d1 : decide ((20 : Int) < (n2 : Int)) = false := decide_eq_false (by omega)
        go_wp2_with fail
        go_meet
        case rel => exact ⟨n2, rfl, by omega, rfl⟩
    case rest =>
      obtain ⟨m2, rfl, hm2, hcut⟩ := hcut
      have hcut := hcut.symm
      subst hcut
      have HM2 : Hid (ZPI N w (.slice A2 m2 c2) (rs2.take m2)) := HQ.out.takeG (by omega)
      have hm220 : m2 ≤ 20 := by omega
      clear hm2 hcn HQ
      generalize rs.take m = ps at *
      generalize rs2.take m2 = qs at *
      have x0 := HT.out.1.1
      have x1 := HT.out.2.1.1
      have hA4 := AtG.new (w := w3) (z := (re, im)) rfl
      dsimp only at hA4
      have hB4 := belowA w3 (.cells #[.int .i64 re, .int .i64 im] 68)
      go_upto_region 9 with fail
      clear x0 x1
      generalize w3.alloc (.cells #[.int .i64 re, .int .i64 im] 68) = w4 at *
      have HA4 := Lib.hid hA4
      have HB4 := Lib.hid hB4
      have HBW := Lib.hid (bt HB.out hB4)
      clear hA4 hB4
      go_wp2_with fail
      have x0_z := (HA4.out.below (Below.refl _ _)).1.1
      have x1_z := (HA4.out.below (Below.refl _ _)).2.1
      have y0_z := At.growB (HA4.out.below (Below.refl _ _)).1
      have y1_z := At.growB (HA4.out.below (Below.refl _ _)).2
      dsimp only at x0_z x1_z y0_z y1_z
      refine wp_region_fltR (KB w4.heap.size) (KB.refl _) (KB.trans _) (KB.of_grow _) [(0, 0), (0, 2), (2, 7), (1, 1), (1, 3), (0, 4), (0, 5), (0, 6), (4, 7), (3, 8), (0, 9)] (by kernel_rfl) (by kernel_rfl) ?_
      repeat (refine flt_pas (by rfl) (fun K hK => ?_); go_simp; refine hK _ _ (fun w' hw' => (by first | (go_simp; done) | (go_simp; intro hh; cases hh))) ?_; clear hK K)
      refine flt_alloc w4.heap.size 68 #[.int .i64 0, .int .i64 0] (by rfl) rfl (fun w1 => (by go_simp)) (Nat.le_refl _) ?_
      clear x0_z x1_z y0_z y1_z
      refine flt_call (by rfl) (fun v_9 hv_9 K hK => ?_); go_simp; refine hK _ _ ?_; clear hK K
      have D_9 := bt (below_drewN w4 1) hv_9.below
      refine (copyZ_any (HM.out.below (bt HBW.out D_9)) (by omega) (by omega)).mono ?_
      rintro e w_9 ⟨P_9, p_9, d_9, rfl, hz_9, hb_9⟩
      refine ⟨_, rfl, Grow.of_below hb_9, ?_⟩
      (refine flt_norm (fun K hK => ?_); go_simp; refine hK _ ?_; clear hK K)
      have E_9 := bt D_9 hb_9
      refine flt_call (by rfl) (fun v_10 hv_10 K hK => ?_); go_simp; refine hK _ _ ?_; clear hK K
      have D_10 := bt E_9 hv_10.below
      refine (gvalueZ_any (z := (re, im)) (hz_9.below hv_10.below) H64.out (by omega) (by have := hz_9.len.1; have := HM.out.len.1; omega)).mono ?_
      rintro e w_10 ⟨va, ea, rfl, hva, hb_10⟩
      refine ⟨_, rfl, Grow.of_below hb_10, ?_⟩
      (refine flt_norm (fun K hK => ?_); go_simp; refine hK _ ?_; clear hK K)
      have HVA := hva
      obtain ⟨a1, a2⟩ := va
      have E_10 := bt D_10 hb_10
      clear hva
      repeat (refine flt_pas (by rfl) (fun K hK => ?_); go_simp; refine hK _ _ (fun w' hw' => (by first | (go_simp; done) | (go_simp; intro hh; cases hh))) ?_; clear hK K)
      refine flt_land (by rfl) (fun vv u_a hu_a hF => ?_)
      obtain ⟨b_a, rfl, hB_a, hc_a⟩ := hF
      (refine flt_norm (fun K hK => ?_); go_simp; refine hK _ ?_; clear hK K)
      obtain ⟨cz1, cz2, cz3⟩ := cel_of hc_a (j := 0) rfl
      obtain ⟨cz4, cz5, cz6⟩ := cel_of hc_a (j := 1) rfl
      (refine flt_actX (by rfl) (fun K hK => ?_); go_simp)
      refine hK _ _ ⟨KB.set2 hB_a, ?_⟩
      clear hK K
      (refine flt_norm (fun K hK => ?_); go_simp; refine hK _ ?_; clear hK K)
      repeat (refine flt_pas (by rfl) (fun K hK => ?_); go_simp; refine hK _ _ (fun w' hw' => (by first | (go_simp; done) | (go_simp; intro hh; cases hh))) ?_; clear hK K)
      refine flt_nil ?_
      obtain ⟨wu_a, hwu⟩ : ∃ wu : World, wu = (u_a.setCell ⟨b_a, 0, none⟩ (.int .i64 a1)).setCell ⟨b_a, 1, none⟩ (.int .i64 a2) := ⟨_, rfl⟩
      rw [← hwu]
      have HU_a : Hid (Below w4.heap.size w4 wu_a ∧ AtG wu_a b_a (a1, a2)) := by
        rw [hwu]
        have k1 := bt (E_10) hu_a.below
        exact ⟨(k1.setCell (p := ⟨b_a, 0, none⟩) hB_a _).setCell (p := ⟨b_a, 1, none⟩) hB_a _, Cel.at ((Cel.put ⟨cz1, cz2, cz3⟩).set (by simp)), Cel.at ((Cel.set ⟨cz4, cz5, cz6⟩ (by simp)).put)⟩
      clear cz1 cz2 cz3 cz4 cz5 cz6 hwu hc_a hB_a
      clear hv_9 hz_9 hb_9 hv_10 hb_10 hu_a D_9 E_9 D_10 E_10
      have HBV := Lib.hid (bt HBW.out HU_a.out.1)
      go_wp2_with fail
      have x0_z := (HA4.out.below HU_a.out.1).1.1
      have x1_z := (HA4.out.below HU_a.out.1).2.1
      have y0_z := At.growB (HA4.out.below HU_a.out.1).1
      have y1_z := At.growB (HA4.out.below HU_a.out.1).2
      dsimp only at x0_z x1_z y0_z y1_z
      refine wp_region_fltR (KB wu_a.heap.size) (KB.refl _) (KB.trans _) (KB.of_grow _) [(0, 0), (0, 2), (2, 7), (1, 1), (1, 3), (0, 4), (0, 5), (0, 6), (4, 7), (3, 8), (0, 9)] (by kernel_rfl) (by kernel_rfl) ?_
      repeat (refine flt_pas (by rfl) (fun K hK => ?_); go_simp; refine hK _ _ (fun w' hw' => (by first | (go_simp; done) | (go_simp; intro hh; cases hh))) ?_; clear hK K)
      refine flt_alloc wu_a.heap.size 68 #[.int .i64 0, .int .i64 0] (by rfl) rfl (fun w1 => (by go_simp)) (Nat.le_refl _) ?_
      clear x0_z x1_z y0_z y1_z
      refine flt_call (by rfl) (fun v_11 hv_11 K hK => ?_); go_simp; refine hK _ _ ?_; clear hK K
      have D_11 := bt (below_drewN wu_a 1) hv_11.below
      refine (copyZ_any (HM2.out.below (bt HBV.out D_11)) (by omega) (by omega)).mono ?_
      rintro e w_11 ⟨P_11, p_11, d_11, rfl, hz_11, hb_11⟩
      refine ⟨_, rfl, Grow.of_below hb_11, ?_⟩
      (refine flt_norm (fun K hK => ?_); go_simp; refine hK _ ?_; clear hK K)
      have E_11 := bt D_11 hb_11
      refine flt_call (by rfl) (fun v_12 hv_12 K hK => ?_); go_simp; refine hK _ _ ?_; clear hK K
      have D_12 := bt E_11 hv_12.below
      refine (gvalueZ_any (z := (re, im)) (hz_11.below hv_12.below) H64.out (by omega) (by have := hz_11.len.1; have := HM2.out.len.1; omega)).mono ?_
      rintro e w_12 ⟨vb, eb, rfl, hvb, hb_12⟩
      refine ⟨_, rfl, Grow.of_below hb_12, ?_⟩
      (refine flt_norm (fun K hK => ?_); go_simp; refine hK _ ?_; clear hK K)
      have HVB := hvb
      obtain ⟨b1, b2⟩ := vb
      have E_12 := bt D_12 hb_12
      clear hvb
      repeat (refine flt_pas (by rfl) (fun K hK => ?_); go_simp; refine hK _ _ (fun w' hw' => (by first | (go_simp; done) | (go_simp; intro hh; cases hh))) ?_; clear hK K)
      refine flt_land (by rfl) (fun vv u_b hu_b hF => ?_)
      obtain ⟨b_b, rfl, hB_b, hc_b⟩ := hF
      (refine flt_norm (fun K hK => ?_); go_simp; refine hK _ ?_; clear hK K)
      obtain ⟨cz1, cz2, cz3⟩ := cel_of hc_b (j := 0) rfl
      obtain ⟨cz4, cz5, cz6⟩ := cel_of hc_b (j := 1) rfl
      (refine flt_actX (by rfl) (fun K hK => ?_); go_simp)
      refine hK _ _ ⟨KB.set2 hB_b, ?_⟩
      clear hK K
      (refine flt_norm (fun K hK => ?_); go_simp; refine hK _ ?_; clear hK K)
      repeat (refine flt_pas (by rfl) (fun K hK => ?_); go_simp; refine hK _ _ (fun w' hw' => (by first | (go_simp; done) | (go_simp; intro hh; cases hh))) ?_; clear hK K)
      refine flt_nil ?_
      obtain ⟨wu_b, hwu⟩ : ∃ wu : World, wu = (u_b.setCell ⟨b_b, 0, none⟩ (.int .i64 b1)).setCell ⟨b_b, 1, none⟩ (.int .i64 b2) := ⟨_, rfl⟩
      rw [← hwu]
      have HU_b : Hid (Below wu_a.heap.size wu_a wu_b ∧ AtG wu_b b_b (b1, b2)) := by
        rw [hwu]
        have k1 := bt (E_12) hu_b.below
        exact ⟨(k1.setCell (p := ⟨b_b, 0, none⟩) hB_b _).setCell (p := ⟨b_b, 1, none⟩) hB_b _, Cel.at ((Cel.put ⟨cz1, cz2, cz3⟩).set (by simp)), Cel.at ((Cel.set ⟨cz4, cz5, cz6⟩ (by simp)).put)⟩
      clear cz1 cz2 cz3 cz4 cz5 cz6 hwu hc_b hB_b
      clear hv_11 hz_11 hb_11 hv_12 hb_12 hu_b D_11 E_11 D_12 E_12
      have B4b := Lib.hid (bt HU_a.out.1 HU_b.out.1)
      have HBU := Lib.hid (bt HBV.out HU_b.out.1)
      go_upto_region 11 with fail
      go_cut [76] from 62 to 76 (fun tv wx => tv = .bool false ∧ Below wu_b.heap.size wu_b wx)
      case first =>
        rcases HVA.out with ⟨rfl, hz, hav, stp, hsp⟩ | rfl
        · rcases HVB.out with ⟨rfl, _, hbv, stq, hsq⟩ | rfl
          · have C := Lib.hid (gaussLaws_any (z := (re, im)) (HM.out.below HBU.out) (HM2.out.below HBU.out) hN hm20 hm220 hz hsp hsq hav hbv)
            clear hz hav hsp hbv hsq
            have x0_z := (HA4.out.below B4b.out).1.1
            have x1_z := (HA4.out.below B4b.out).2.1
            dsimp only at x0_z x1_z
            have x0_a := (HU_a.out.2.below HU_b.out.1).1.1
            have x1_a := (HU_a.out.2.below HU_b.out.1).2.1
            dsimp only at x0_a x1_a
            have x0_b := (HU_b.out.2.below (Below.refl _ _)).1.1
            have x1_b := (HU_b.out.2.below (Below.refl _ _)).2.1
            dsimp only at x0_b x1_b
            go_wp2_with fail
            refine C.out.mono ?_
            rintro e v7 ⟨rfl, hb7⟩
            clear x0_z x1_z x0_a x1_a x0_b x1_b C
            go_wp2_with fail
            go_meet
            case rel => exact ⟨rfl, hb7⟩
          · clear hz hav hsp
            go_wp2_with fail
            go_meet
            case rel => exact ⟨rfl, Below.refl _ _⟩
        · go_wp2_with fail
          go_meet
          case rel => exact ⟨rfl, Below.refl _ _⟩
      case rest =>
        obtain ⟨rfl, hbx⟩ := hcut
        revert wc
        intro w8 hbx
        have HB8 := Lib.hid (bt HBU.out hbx)
        have HT8 := Lib.hid (bt HB4.out (bt B4b.out hbx))
        clear hbx HVA HVB HU_a HU_b HA4 B4b HBU HBV HBW HM HM2
        have hcc := clamp100 ro
        have hXX := clamp100 re
        have hYY := clamp100 im
        obtain ⟨r, hr, hr1, hr2⟩ := clamp200 ha
        have CC := Lib.hid fun (w : World) => clamp_any (n := ro) (lo := -100) (hi := 100) (w := w)
        have CX := Lib.hid fun (w : World) => clamp_any (n := re) (lo := -100) (hi := 100) (w := w)
        have CY := Lib.hid fun (w : World) => clamp_any (n := im) (lo := -100) (hi := 100) (w := w)
        have CR := Lib.hid fun (w : World) => clamp_any (n := ha) (lo := 1) (hi := 200) (w := w)
        rw [hr] at CR
        clear hr
        generalize clampI ro (-100) 100 = cc at *
        generalize clampI re (-100) 100 = X at *
        generalize clampI im (-100) 100 = Y at *
        have x0 := (HT.out.1.below HT8.out).1
        have x1 := (HT.out.2.1.below HT8.out).1
        have x2 := (HT.out.2.2.1.below HT8.out).1
        have x3 := (HT.out.2.2.2.below HT8.out).1
        go_wp2_with fail
        refine (CC.out _).mono ?_
        rintro e w9 ⟨rfl, rfl⟩
        go_wp2_with fail
        refine (CR.out _).mono ?_
        rintro e w9 ⟨rfl, rfl⟩
        go_wp2_with fail
        have y0 := At.growB (HT.out.1.below HT8.out)
        have y1 := At.growB (HT.out.2.1.below HT8.out)
        refine wp_region_fltR (KB w8.heap.size) (KB.refl _) (KB.trans _) (KB.of_grow _) [(0, 0), (0, 1), (0, 3), (0, 4), (2, 7), (1, 2), (1, 5), (1, 6), (4, 7), (3, 8)] (by kernel_rfl) (by kernel_rfl) ?_
        repeat (refine flt_pas (by rfl) (fun K hK => ?_); go_simp; refine hK _ _ (fun w' hw' => (by first | (go_simp; done) | (go_simp; intro hh; cases hh))) ?_; clear hK K)
        refine flt_alloc w8.heap.size 68 #[.int .i64 0, .int .i64 0] (by rfl) rfl (fun w1 => (by go_simp)) (Nat.le_refl _) ?_
        clear x0 x1 x2 x3 y0 y1
        refine flt_call (by rfl) (fun v_13 hv_13 K hK => ?_); go_simp; refine hK _ _ ?_; clear hK K
        refine (CX.out _).mono ?_
        rintro e w13 ⟨rfl, rfl⟩
        refine ⟨_, rfl, Grow.refl _ _, ?_⟩
        (refine flt_norm (fun K hK => ?_); go_simp; refine hK _ ?_; clear hK K)
        refine flt_call (by rfl) (fun v_14 hv_14 K hK => ?_); go_simp; refine hK _ _ ?_; clear hK K
        refine (CY.out _).mono ?_
        rintro e w14 ⟨rfl, rfl⟩
        refine ⟨_, rfl, Grow.refl _ _, ?_⟩
        (refine flt_norm (fun K hK => ?_); go_simp; refine hK _ ?_; clear hK K)
        refine flt_act (by rfl) (fun v_15 hv_15 K hK => ?_)
        go_simp
        refine hK _ _ ⟨Grow.refl _ _, ?_⟩
        clear hK K
        (refine flt_norm (fun K hK => ?_); go_simp; refine hK _ ?_; clear hK K)
        refine flt_land (by rfl) (fun vv u_m hu_m hF => ?_)
        obtain ⟨b_m, rfl, hB_m, hc_m⟩ := hF
        (refine flt_norm (fun K hK => ?_); go_simp; refine hK _ ?_; clear hK K)
        obtain ⟨cz1, cz2, cz3⟩ := cel_of hc_m (j := 0) rfl
        obtain ⟨cz4, cz5, cz6⟩ := cel_of hc_m (j := 1) rfl
        (refine flt_actX (by rfl) (fun K hK => ?_); go_simp)
        refine hK _ _ ⟨KB.set2 hB_m, ?_⟩
        clear hK K
        (refine flt_norm (fun K hK => ?_); go_simp; refine hK _ ?_; clear hK K)
        repeat (refine flt_pas (by rfl) (fun K hK => ?_); go_simp; refine hK _ _ (fun w' hw' => (by first | (go_simp; done) | (go_simp; intro hh; cases hh))) ?_; clear hK K)
        refine flt_nil ?_
        obtain ⟨wu_m, hwu⟩ : ∃ wu : World, wu = (u_m.setCell ⟨b_m, 0, none⟩ (.int .i64 X)).setCell ⟨b_m, 1, none⟩ (.int .i64 Y) := ⟨_, rfl⟩
        rw [← hwu]
        have HU_m : Hid (Below w8.heap.size w8 wu_m ∧ AtG wu_m b_m (X, Y)) := by
          rw [hwu]
          have k1 := bt (bt (below_drewN w8 1) (bt hv_13.below (bt hv_14.below hv_15.below))) hu_m.below
          exact ⟨(k1.setCell (p := ⟨b_m, 0, none⟩) hB_m _).setCell (p := ⟨b_m, 1, none⟩) hB_m _, Cel.at ((Cel.put ⟨cz1, cz2, cz3⟩).set (by simp)), Cel.at ((Cel.set ⟨cz4, cz5, cz6⟩ (by simp)).put)⟩
        clear cz1 cz2 cz3 cz4 cz5 cz6 hwu hc_m hB_m
        have HBM := Lib.hid (bt HB8.out HU_m.out.1)
        have HAM := Lib.hid HU_m.out.2
        clear hv_13 hv_14 hv_15 hu_m HU_m CC CX CY CR HT HT8 HB8
        have hwc : IntKind.i64.wrap (-cc) = -cc := by rw [IntKind.wrap_i64]; omega
        go_wp2_with fail
        have x0 := HAM.out.1.1
        have x1 := HAM.out.2.1
        have y0 := At.grow HAM.out.1
        have y1 := At.grow HAM.out.2
        dsimp only at x0 x1 y0 y1
        refine wp_region_grow none [(true, 0), (true, 1), (true, 4), (true, 5), (false, 2), (false, 3), (false, 6), (true, 7), (true, 8), (true, 9), (true, 10), (true, 11)] (by kernel_rfl) (by kernel_rfl) ?_
        repeat (refine ord_pas (by rfl) (fun K hK => ?_); go_simp; refine hK _ _ (fun w' hw' => (by first | (go_simp; done) | (go_simp; intro hh; cases hh))) ?_; clear hK K)
        clear x0 x1 y0 y1
        (refine ord_act (by rfl) (fun K hK => ?_); go_simp)
        refine hK _ _ ⟨Grow.of_below ((Below.refl _ _).alloc (Nat.le_refl _) _), ?_⟩
        clear hK K
        (refine ord_norm (fun K hK => ?_); go_simp; refine hK _ ?_; clear hK K)
        have o1 := RowK.lit (b := wu_m.heap.size) (k := 1) (T := 3) (B := 0) (World.drew wu_m) 2 [.int .i64 (-cc), .int .i64 1] (by simp) rfl (by omega) (Nat.zero_le _)
        have o2 : RdK 1 _ (some ⟨wu_m.heap.size, 0, none⟩) 2 2 (zvl [-cc, 1]) := o1.rd
        (refine ord_call (by rfl) (fun K hK => ?_); go_simp; refine hK _ _ ?_; clear hK K)
        refine (polyZ_any (zs := [-cc, 1]) o2 rfl (by intro z hz; simp at hz; rcases hz with rfl | rfl <;> omega) (by omega)).mono ?_
        rintro e v16 ⟨P16, p16, d16, rfl, hz16, hb16⟩
        refine ⟨_, rfl, (Grow.of_below hb16), ?_⟩
        (refine ord_norm (fun K hK => ?_); go_simp; refine hK _ ?_; clear hK K)
        repeat (refine ord_pas (by rfl) (fun K hK => ?_); go_simp; refine hK _ _ (fun w' hw' => (by first | (go_simp; done) | (go_simp; intro hh; cases hh))) ?_; clear hK K)
        have hp17 : p16 ≤ 1048576 := by rw [hz16.len]; simp
        have hg1 : cc.natAbs ≤ 1000 := by omega
        have hg2 : X.natAbs ≤ 1000 := by omega
        have hg3 : Y.natAbs ≤ 1000 := by omega
        have hg4 : r ≤ 1000 := by omega
        (refine ord_call (by rfl) (fun K hK => ?_); go_simp; refine hK _ _ ?_; clear hK K)
        have CG := garound_any (c := cc) (X := X) (Y := Y) (r := r) (w := v16) hz16.c.inp (zco_map [-cc, 1]) (by omega) hp17 hg1 hg2 hg3 hr1 hg4
        refine CG.mono ?_
        rintro e v17 ⟨tv, te, rfl, hv, hb17⟩
        refine ⟨_, rfl, (Grow.of_below hb17), ?_⟩
        (refine ord_norm (fun K hK => ?_); go_simp; refine hK _ ?_; clear hK K)
        repeat (refine ord_pas (by rfl) (fun K hK => ?_); go_simp; refine hK _ _ (fun w' hw' => (by first | (go_simp; done) | (go_simp; intro hh; cases hh))) ?_; clear hK K)
        refine ord_nil ?_
        have B17 := bt (below_drewN wu_m 1) (bt (belowA _ _) (bt hb16 hb17))
        have HF := Lib.hid (bt HBM.out B17)
        have HA17 := Lib.hid (HAM.out.below B17)
        clear o1 o2 hz16 hp17 hb16 hb17 B17 HBM HAM hwc hg1 hg2 hg3 hg4 CG
        obtain ⟨D, hD⟩ : ∃ D : Int, D = cc - X := ⟨_, rfl⟩
        have hwd : IntKind.i64.wrap (cc - X) = D := by rw [IntKind.wrap_i64, hD]; omega
        have HD := Lib.hid hD
        have hDb : -200 ≤ D ∧ D ≤ 200 := by omega
        clear hD
        go_wp2_with fail
        have x0 := HA17.out.1.1
        have x1 := HA17.out.2.1
        have y0 := At.grow HA17.out.1
        have y1 := At.grow HA17.out.2
        dsimp only at x0 x1 y0 y1
        refine wp_region_grow none [(true, 0), (true, 1), (true, 2), (true, 3), (true, 4), (true, 5), (true, 6), (true, 7)] (by kernel_rfl) (by kernel_rfl) ?_
        repeat (refine ord_pas (by rfl) (fun K hK => ?_); go_simp; refine hK _ _ (fun w' hw' => (by first | (go_simp; done) | (go_simp; intro hh; cases hh))) ?_; clear hK K)
        refine ord_nil ?_
        clear x0 x1 y0 y1 hwd
        have HF2 := Lib.hid (bt HF.out (below_drewN v17 1))
        go_upto_if 107 with fail
        go_cut [17] from 106 to 109 (fun v wx => ∃ dx : Nat, v = .int .i64 (dx : Int) ∧ dx = D.natAbs ∧ wx = World.drew v17)
        case first =>
          by_cases hlt : D < 0
          · have d1 : decide (D < 0) = true := decide_eq_true hlt
            obtain ⟨q, hq⟩ : ∃ q : Nat, q = D.natAbs := ⟨_, rfl⟩
            have hw : IntKind.i64.wrap (-D) = (q : Int) := by rw [IntKind.wrap_i64]; omega
            have HQ := Lib.hid hq
            clear hq
            go_wp2_with fail
            go_meet
            case rel => exact ⟨q, rfl, HQ.out, rfl⟩
          · have d1 : decide (D < 0) = false := decide_eq_false hlt
            obtain ⟨q, rfl⟩ : ∃ q : Nat, D = (q : Int) := ⟨D.toNat, by omega⟩
            go_wp2_with fail
            go_meet
            case rel => exact ⟨q, rfl, by omega, rfl⟩
        case rest =>
          obtain ⟨dx, rfl, hdx, hcut⟩ := hcut
          have hcut := hcut
          subst hcut
          have HDX : Hid (dx = (X - cc).natAbs) := by have := HD.out; show _ = _; omega
          clear HD hdx hDb
          go_upto_if 111 with fail
          go_cut [18] from 110 to 113 (fun v wx => ∃ dy : Nat, v = .int .i64 (dy : Int) ∧ dy = Y.natAbs ∧ wx = World.drew v17)
          case first =>
            by_cases hlt : Y < 0
            · have d1 : decide (Y < 0) = true := decide_eq_true hlt
              obtain ⟨q, hq⟩ : ∃ q : Nat, q = Y.natAbs := ⟨_, rfl⟩
              have hw : IntKind.i64.wrap (-Y) = (q : Int) := by rw [IntKind.wrap_i64]; omega
              have HQ := Lib.hid hq
              clear hq
              go_wp2_with fail
              go_meet
              case rel => exact ⟨q, rfl, HQ.out, rfl⟩
            · have d1 : decide (Y < 0) = false := decide_eq_false hlt
              obtain ⟨q, hq⟩ : ∃ q : Nat, Y = (q : Int) := ⟨Y.toNat, by omega⟩
              subst hq
              go_wp2_with fail
              go_meet
              case rel => exact ⟨q, rfl, by omega, rfl⟩
          case rest =>
            obtain ⟨dy, rfl, hdy, hcut⟩ := hcut
            subst hcut
            have HV : Hid ((¬ ((dx < r ∧ dy < r) ∨ r < dx ∨ r < dy) ∧ tv = 0 ∧ te = 1) ∨ (((dx < r ∧ dy < r) ∨ r < dx ∨ r < dy) ∧ tv = (if dx < r ∧ dy < r then 1 else 0) ∧ te = 0)) := by
              have h := hv.out
              unfold clear0 at h
              rw [← HDX.out, ← hdy] at h
              exact h
            clear hv HDX hdy
            by_cases h1 : dx < r ∧ dy < r
            · have hvv : tv = 1 ∧ te = 0 := by
                rcases HV.out with ⟨h2, _⟩ | ⟨_, h3, h4⟩
                · exact absurd (.inl h1) h2
                · exact ⟨by rw [h3, if_pos h1], h4⟩
              obtain ⟨rfl, rfl⟩ := hvv
              have e1 : decide (dx < r) = true := decide_eq_true h1.1
              have e2 : decide (dy < r) = true := decide_eq_true h1.2
              clear h1 HV
              go_wp2
              go_ret
              exact ⟨by simp, HF2.out⟩
            · by_cases h2 : r < dx ∨ r < dy
              · have hvv : tv = 0 ∧ te = 0 := by
                  rcases HV.out with ⟨h3, _⟩ | ⟨_, h3, h4⟩
                  · exact absurd (.inr h2) h3
                  · exact ⟨by rw [h3, if_neg h1], h4⟩
                obtain ⟨rfl, rfl⟩ := hvv
                by_cases h3 : dx < r
                · have e1 : decide (dx < r) = true := decide_eq_true h3
                  have e2 : decide (dy < r) = false := decide_eq_false (by omega)
                  have e3 : decide (r < dx) = false := decide_eq_false (by omega)
                  have e4 : decide (r < dy) = true := decide_eq_true (by omega)
                  clear h1 h2 h3 HV
                  go_wp2
                  go_ret
                  exact ⟨by simp, HF2.out⟩
                · have e1 : decide (dx < r) = false := decide_eq_false h3
                  by_cases h4 : r < dx
                  · have e3 : decide (r < dx) = true := decide_eq_true h4
                    clear h1 h2 h3 h4 HV
                    go_wp2
                    go_ret
                    exact ⟨by simp, HF2.out⟩
                  · have e3 : decide (r < dx) = false := decide_eq_false h4
                    have e4 : decide (r < dy) = true := decide_eq_true (by omega)
                    clear h1 h2 h3 h4 HV
                    go_wp2
                    go_ret
                    exact ⟨by simp, HF2.out⟩
              · have hvv : tv = 0 ∧ te = 1 := by
                  rcases HV.out with ⟨_, h3, h4⟩ | ⟨h3, _⟩
                  · exact ⟨h3, h4⟩
                  · exact absurd h3 (not_or.2 ⟨h1, h2⟩)
                obtain ⟨rfl, rfl⟩ := hvv
                have e3 : decide (r < dx) = false := decide_eq_false (by omega)
                have e4 : decide (r < dy) = false := decide_eq_false (by omega)
                by_cases h3 : dx < r
                · have e1 : decide (dx < r) = true := decide_eq_true h3
                  have e2 : decide (dy < r) = false := decide_eq_false (by omega)
                  clear h1 h2 h3 HV
                  go_wp2
                  go_ret
                  exact ⟨by simp, HF2.out⟩
                · have e1 : decide (dx < r) = false := decide_eq_false h3
                  clear h1 h2 h3 HV
                  go_wp2
                  go_ret
                  exact ⟨by simp, HF2.out⟩
end Go.Proofs.Ytphofjinncbaaaa
