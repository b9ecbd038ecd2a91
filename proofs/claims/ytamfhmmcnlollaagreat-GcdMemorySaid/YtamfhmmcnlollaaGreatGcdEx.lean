/-
  The document's Inverse (surdref05); inverses and Bezout's factors are unique. The plain law of the Chinese remainders: what the rounds keep, whichever way the factor was found. No program here. Walk: gcd.Crt. Walk: the document's Crt (surdref05). GcdExtends: Extended, Inverse, Crt, as the document's.
-/
import Derived.Test.YtamfhmmcnlollaaGreatIntG
import Derived.Test.YtamfhmmcnlollaaGreatGcdDv
namespace Go.Proofs.YtamfhmmcnlollaaGreat
open Go.RowKit
set_option linter.unusedVariables false

theorem ext_cong {a m x y : Nat} {neg : Bool} (h : ExtOk a m x y neg) (hg : Nat.gcd a m = 1) : Cong m a 1 x := by
  obtain ⟨h1, _, _⟩ := h
  rw [hg] at h1
  have e : (x : Int) * (a : Int) = ((x * a : Nat) : Int) := (Int.natCast_mul x a).symm
  have e2 : (m : Int) * (y : Int) = ((y * m : Nat) : Int) := by rw [Int.natCast_mul, Int.mul_comm]
  rcases h1 with ⟨_, _, h1⟩ | ⟨_, h1⟩
  · refine ⟨-(y : Int), ?_⟩
    rw [e, Int.mul_neg, e2]; omega
  · refine ⟨(y : Int), ?_⟩
    rw [e, e2]; omega
theorem inv_uniq {a m x x' : Nat} (h : Cong m a 1 x) (h' : Cong m a 1 x') (hx : x < m) (hx' : x' < m) : x = x' := by
  have h1 : (m : Int) ∣ ((x' : Int) - (x : Int)) * (a : Int) := by
    have := Int.dvd_sub h h'
    have e : ((1 : Nat) : Int) - (x : Int) * (a : Int) - (((1 : Nat) : Int) - (x' : Int) * (a : Int)) = ((x' : Int) - (x : Int)) * (a : Int) := by rw [Int.sub_mul]; omega
    rwa [e] at this
  have h2 : (m : Int) ∣ ((x' : Int) - (x : Int)) := by
    have e : ((x' : Int) - (x : Int)) = ((x' : Int) - (x : Int)) * (((1 : Nat) : Int) - (x : Int) * (a : Int)) + (x : Int) * (((x' : Int) - (x : Int)) * (a : Int)) := by
      rw [Int.mul_sub, Int.mul_left_comm (x : Int)]
      show _ = _ * 1 - _ + _
      omega
    rw [e]
    exact Int.dvd_add (Int.dvd_mul_of_dvd_right h) (Int.dvd_mul_of_dvd_right h1)
  have h3 := Int.emod_eq_emod_iff_emod_sub_eq_zero.2 (Int.emod_eq_zero_of_dvd h2)
  rw [Int.emod_eq_of_lt (by omega) (by omega), Int.emod_eq_of_lt (by omega) (by omega)] at h3
  omega
theorem some_exists : ∀ (a : Nat), 0 < a → ∀ b : Nat, ∃ z, SomeOk a b z := by
  intro a
  induction a using Nat.strongRecOn with
  | _ a ih =>
    intro ha b
    rcases Nat.eq_zero_or_pos (b % a) with hr | hr
    · exact ⟨1, some_one hr⟩
    · obtain ⟨y, ⟨k, h1⟩, h2⟩ := ih _ (Nat.mod_lt b ha) hr a
      exact ⟨_, some_step ha hr h1 h2⟩
theorem inv_exists {a m : Nat} (hm : 0 < m) (hg : Nat.gcd a m = 1) : ∃ x, x < m ∧ Cong m a 1 x := by
  rcases Nat.eq_zero_or_pos a with ha | ha
  · subst ha
    rw [Nat.gcd_zero_left] at hg
    subst hg
    exact ⟨0, by omega, Int.one_dvd _⟩
  · obtain ⟨z, hz⟩ := some_exists a ha m
    obtain ⟨k, h1, h2⟩ := ext_law hm hz
    rw [hg, Nat.div_one] at h1 h2
    exact ⟨_, h2, ⟨k, by rw [h1, Int.mul_comm]⟩⟩
theorem ext_int {a b x y : Nat} {neg : Bool} (h : ExtOk a b x y neg) : ∃ Y : Int, (Nat.gcd a b : Int) = (x : Int) * (a : Int) + Y * (b : Int) ∧ y = Y.natAbs ∧ neg = decide (Y < 0) := by
  obtain ⟨h1, _, _⟩ := h
  rcases h1 with ⟨h0, h2, h1⟩ | ⟨h0, h1⟩
  · refine ⟨-(y : Int), ?_, by omega, ?_⟩
    · rw [Int.neg_mul, ← Int.natCast_mul, ← Int.natCast_mul]; omega
    · rw [h0, decide_eq_true (by omega)]
  · refine ⟨(y : Int), ?_, by omega, ?_⟩
    · rw [← Int.natCast_mul, ← Int.natCast_mul]; omega
    · rw [h0, decide_eq_false (by omega)]
theorem ext_uniq {a b x y x' y' : Nat} {n n' : Bool} (h : ExtOk a b x y n) (h' : ExtOk a b x' y' n') : x = x' ∧ y = y' ∧ n = n' := by
  obtain ⟨Y, e1, e2, e3⟩ := ext_int h
  obtain ⟨Y', f1, f2, f3⟩ := ext_int h'
  rcases Nat.eq_zero_or_pos b with hb | hb
  · obtain ⟨g1, g2⟩ := h.2.1 hb
    obtain ⟨k1, k2⟩ := h'.2.1 hb
    have : Y = 0 := by omega
    have : Y' = 0 := by omega
    subst Y Y'
    exact ⟨by rw [g2, k2], by omega, by rw [e3, f3]⟩
  · have hx := h.2.2 hb
    have hx' := h'.2.2 hb
    obtain ⟨d, hd⟩ := Nat.gcd_dvd_left a b
    obtain ⟨p, hp⟩ := Nat.gcd_dvd_right a b
    have hg : 0 < Nat.gcd a b := Nat.gcd_pos_of_pos_right a hb
    have hbp : b / Nat.gcd a b = p := by conv => lhs; arg 1; rw [hp]
                                         exact Nat.mul_div_cancel_left p hg
    rw [hbp] at hx hx'
    generalize Nat.gcd a b = g at *
    have ea : (a : Int) = (g : Int) * (d : Int) := by rw [← Int.natCast_mul, ← hd]
    have eb : (b : Int) = (g : Int) * (p : Int) := by rw [← Int.natCast_mul, ← hp]
    have key : ∀ {x : Nat} {Y : Int}, (g : Int) = (x : Int) * (a : Int) + Y * (b : Int) → Cong p d 1 x := fun {x} {Y} h => by
      refine ⟨Y, ?_⟩
      rw [ea, eb, Int.mul_left_comm, Int.mul_left_comm Y, ← Int.mul_add] at h
      have h2 : (g : Int) * 1 = (g : Int) * ((x : Int) * (d : Int) + Y * (p : Int)) := by omega
      have h3 := Int.eq_of_mul_eq_mul_left (by omega) h2
      rw [Int.mul_comm (p : Int)]
      omega
    have hxx := inv_uniq (key e1) (key f1) hx hx'
    subst hxx
    have hY : Y * (b : Int) = Y' * (b : Int) := by omega
    have hY := Int.eq_of_mul_eq_mul_right (by omega) hY
    subst hY
    exact ⟨rfl, by rw [e2, f2], by rw [e3, f3]⟩
set_option maxHeartbeats 2000000 in
theorem inverse5_any {v u : Value} {a m K : Nat} {w : World} (h : Num w v a K) (h' : Num w u m K) (hK1 : 1 ≤ K) (hK : K ≤ 1000000) :
    Calls Tryz.prog 41 #[v, u] w (GInv w a m K) := by
  have H := Lib.hid h
  have H' := Lib.hid h'
  obtain ⟨_, _, _, _, rfl, _⟩ := id h
  obtain ⟨_, _, _, _, rfl, _⟩ := id h'
  clear h h'
  rcases Nat.eq_zero_or_pos m with hm | hm
  · have HM := Lib.hid hm
    have q0 : decide (m = 0) = true := by simpa using hm
    clear hm
    go_enter Tryz.func41, Tryz.ntmps41
    go_wp2_with fail
    refine (zero5_any H'.out (by omega)).mono ?_
    rintro e w1 ⟨rfl, hb1⟩
    go_wp2
    go_ret2
    exact ⟨_, _, _, _, rfl, hb1, Nat.zero_le _, .inr ⟨rfl, rfl, rfl, .inl ⟨HM.out, rfl⟩⟩⟩
  · have HM := Lib.hid hm
    have q0 : decide (m = 0) = false := by simp; omega
    clear hm
    obtain ⟨bb, hbb⟩ : ∃ bb, bb = decide (Nat.gcd a m = 1) := ⟨_, rfl⟩
    have CO : Hid (∀ (w : World) (v u : Value), Num w v a K → Num w u m K → Calls Tryz.prog 51 #[v, u] w (Keeps (.bool bb) w)) := fun w v u h1 h2 => by rw [hbb]; exact coprime5_any (K := K) h1 h2 (by omega) (by omega) (by omega) (by omega)
    have HBB := Lib.hid hbb
    clear hbb
    go_enter Tryz.func41, Tryz.ntmps41
    go_wp2_with fail
    refine (zero5_any H'.out (by omega)).mono ?_
    rintro e w2 ⟨rfl, hb2⟩
    rcases bb with _ | _
    · skip
      go_wp2_with fail
      refine (CO.out _ _ _ (H.out.below hb2) (H'.out.below hb2)).mono ?_
      rintro e w3 ⟨rfl, hb3⟩
      go_wp2
      go_ret2
      exact ⟨_, _, _, _, rfl, (bt hb2 hb3), Nat.zero_le _, .inr ⟨rfl, rfl, rfl, .inr ⟨HM.out, of_decide_eq_false HBB.out.symm, rfl⟩⟩⟩
    · skip
      go_wp2_with fail
      refine (CO.out _ _ _ (H.out.below hb2) (H'.out.below hb2)).mono ?_
      rintro e w4 ⟨rfl, hb4⟩
      have HG : Hid (Nat.gcd a m = 1) := by show _ = _; exact of_decide_eq_true HBB.out.symm
      go_wp2_with fail
      refine (extended5_any ((H.out.below hb2).below hb4) ((H'.out.below hb2).below hb4) hK1 hK).mono ?_
      rintro e w5 ⟨vx, vy, neg_, A_g, n_g, c_g, A_x, n_x, c_x, A_y, n_y, c_y, hExt, rfl, ⟨o_g, o_x, o_y⟩, hb5, l_g, l_x, l_y⟩
      have HE := Lib.hid hExt
      clear hExt
      have e0 := ((At.boxc (i := 0) (v := .bool false) (t := 60) (b := w5.heap.size) w5 #[.bool false, .slice A_x n_x c_x] rfl (by simp)).below ((Below.refl _ _).alloc (Nat.le_refl _) (.cells #[.bool neg_, .slice A_y n_y c_y] 60))).1
      have e1 := ((At.boxc (i := 1) (v := .slice A_x n_x c_x) (t := 60) (b := w5.heap.size) w5 #[.bool false, .slice A_x n_x c_x] rfl (by simp)).below ((Below.refl _ _).alloc (Nat.le_refl _) (.cells #[.bool neg_, .slice A_y n_y c_y] 60))).1
      go_wp2_with fail
      refine (mod5_any (s := false) (((o_x.num l_x).below ((Below.refl _ _).alloc (Nat.le_refl _) (.cells #[.bool false, .slice A_x n_x c_x] 60))).below ((Below.refl _ _).alloc (Nat.le_refl _) (.cells #[.bool neg_, .slice A_y n_y c_y] 60))) (((((H'.out.below hb2).below hb4).below hb5).below ((Below.refl _ _).alloc (Nat.le_refl _) (.cells #[.bool false, .slice A_x n_x c_x] 60))).below ((Below.refl _ _).alloc (Nat.le_refl _) (.cells #[.bool neg_, .slice A_y n_y c_y] 60))) rfl HM.out (by omega) (by omega) (by omega) (by omega)).mono ?_
      rintro e w6 ⟨A_r, n_r, c_r, rfl, o_r, hb6, l_r⟩
      have HR := Lib.hid (o_r.mono (bt (bt (bt (bt hb2 hb4) hb5) ((Below.refl _ _).alloc (Nat.le_refl _) (.cells #[.bool false, .slice A_x n_x c_x] 60))) ((Below.refl _ _).alloc (Nat.le_refl _) (.cells #[.bool neg_, .slice A_y n_y c_y] 60))).size)
      have HBF := Lib.hid (bt (bt (bt (bt (bt hb2 hb4) hb5) ((Below.refl _ _).alloc (Nat.le_refl _) (.cells #[.bool false, .slice A_x n_x c_x] 60))) ((Below.refl _ _).alloc (Nat.le_refl _) (.cells #[.bool neg_, .slice A_y n_y c_y] 60))) hb6)
      clear e0 e1 o_g o_x o_y o_r
      go_wp2
      go_ret2
      have hlt : vx < m := by
        have := HE.out.2.2 HM.out
        rwa [HG.out, Nat.div_one] at this
      have er : (sg false vx % (m : Int)).toNat = vx := by
        rw [sg_false, mod_pos]; exact Nat.mod_eq_of_lt hlt
      have ho := HR.out
      rw [er] at ho
      exact ⟨_, _, _, _, rfl, HBF.out, l_r, .inl ⟨HM.out, HG.out, rfl, vx, hlt, ext_cong HE.out HG.out, ho⟩⟩
/-- a slice to read, an error's number -/
def GIx (w : World) (xs : List Nat) (er : Int) (L : Nat) (e : Ending) (w' : World) : Prop :=
  ∃ A n c, e = .returned (.tuple #[.slice A n c, .int .i64 er]) ∧ Below w.heap.size w w' ∧ n ≤ L ∧ Rd .u64 w' A n c xs
end Go.Proofs.YtamfhmmcnlollaaGreat
namespace Go.Proofs.YtamfhmmcnlollaaGreat
open Go.RowKit
set_option linter.unusedVariables false

/-- after i rounds: x is the one answer below l, the moduli's lcm -/
def CrtI (rs ms : List Nat) (i x l : Nat) : Prop :=
  x < l ∧ l = llcm (ms.take i) ∧ (∀ j, j < i → nth ms j ∣ l ∧ x % nth ms j = nth rs j % nth ms j) ∧ ∀ X, (∀ j, j < i → X % nth ms j = nth rs j % nth ms j) → X % l = x
theorem CrtI.start (rs ms : List Nat) : CrtI rs ms 0 0 1 := ⟨by omega, rfl, fun j h => by omega, fun X _ => Nat.mod_one X⟩
theorem CrtI.uniq {rs ms : List Nat} {i x l x' l' : Nat} (h : CrtI rs ms i x l) (h' : CrtI rs ms i x' l') : x = x' ∧ l = l' := by
  have hl : l = l' := by rw [h.2.1, h'.2.1]
  subst hl
  refine ⟨?_, rfl⟩
  have := h'.2.2.2 x fun j hj => (h.2.2.1 j hj).2
  rwa [Nat.mod_eq_of_lt h.1] at this
theorem mod_of_sub {a b m : Nat} (h : (m : Int) ∣ (a : Int) - (b : Int)) : a % m = b % m := by
  have h3 := Int.emod_eq_emod_iff_emod_sub_eq_zero.2 (Int.emod_eq_zero_of_dvd h)
  rw [← Int.natCast_emod, ← Int.natCast_emod] at h3
  exact Int.ofNat.inj h3
theorem sub_of_mod {a b m : Nat} (h : a % m = b % m) : (m : Int) ∣ (a : Int) - (b : Int) := by
  refine Int.dvd_of_emod_eq_zero (Int.emod_eq_emod_iff_emod_sub_eq_zero.1 ?_)
  rw [← Int.natCast_emod, ← Int.natCast_emod, h]
theorem CrtI.step {rs ms : List Nat} {i x l T : Nat} (h : CrtI rs ms i x l) (hi : i < ms.length) (hn : 0 < nth ms i) (hT : (x + l * T) % nth ms i = nth rs i % nth ms i) :
    CrtI rs ms (i + 1) ((x + l * T) % Nat.lcm l (nth ms i)) (Nat.lcm l (nth ms i)) := by
  obtain ⟨h1, h2, h3, h4⟩ := h
  have hl0 : 0 < Nat.lcm l (nth ms i) := Nat.lcm_pos (by omega) hn
  have d1 : l ∣ Nat.lcm l (nth ms i) := Nat.dvd_lcm_left _ _
  have d2 : nth ms i ∣ Nat.lcm l (nth ms i) := Nat.dvd_lcm_right _ _
  refine ⟨Nat.mod_lt _ hl0, ?_, fun j hj => ?_, fun X hX => ?_⟩
  · rw [llcm_take hi, ← h2]
  · rcases (show j < i ∨ j = i by omega) with hj | rfl
    · obtain ⟨e1, e2⟩ := h3 j hj
      refine ⟨Nat.dvd_trans e1 d1, ?_⟩
      rw [Nat.mod_mod_of_dvd _ (Nat.dvd_trans e1 d1), Nat.add_mod, Nat.mod_eq_zero_of_dvd (Nat.dvd_trans e1 (Nat.dvd_mul_right l T)), Nat.add_zero, Nat.mod_mod, e2]
    · exact ⟨d2, by rw [Nat.mod_mod_of_dvd _ d2, hT]⟩
  · have e1 := h4 X fun j hj => hX j (by omega)
    have e2 := hX i (by omega)
    have f1 : (l : Int) ∣ (X : Int) - ((x + l * T : Nat) : Int) := sub_of_mod (by rw [e1, Nat.add_mul_mod_self_left, Nat.mod_eq_of_lt h1])
    have f2 : (nth ms i : Int) ∣ (X : Int) - ((x + l * T : Nat) : Int) := sub_of_mod (by rw [e2, hT])
    refine mod_of_sub ?_
    have g1 := Int.natAbs_dvd_natAbs.2 f1
    have g2 := Int.natAbs_dvd_natAbs.2 f2
    rw [Int.natAbs_natCast] at g1 g2
    exact Int.natAbs_dvd_natAbs.1 (by rw [Int.natAbs_natCast]; exact Nat.lcm_dvd g1 g2)
/-- what is still lacking modulo n -/
def crtD (r x n : Nat) : Nat := (((r : Int) - (x : Int)) % (n : Int)).toNat
theorem crtD_spec {r x n : Nat} (hn : 0 < n) : (n : Int) ∣ (r : Int) - (x : Int) - (crtD r x n : Int) := by
  have h0 : 0 ≤ ((r : Int) - (x : Int)) % (n : Int) := Int.emod_nonneg _ (by omega)
  rw [crtD, Int.toNat_of_nonneg h0]
  exact ⟨((r : Int) - (x : Int)) / (n : Int), by have := Int.mul_ediv_add_emod ((r : Int) - (x : Int)) (n : Int); omega⟩
theorem crtD_lt {r x n : Nat} (hn : 0 < n) : crtD r x n < n := by
  have h0 : 0 ≤ ((r : Int) - (x : Int)) % (n : Int) := Int.emod_nonneg _ (by omega)
  have h1 : ((r : Int) - (x : Int)) % (n : Int) < (n : Int) := Int.emod_lt_of_pos _ (by omega)
  rw [crtD]; omega
theorem crtD_nat {r x n : Nat} (hn : 0 < n) : (r % n + (n - x % n)) % n = crtD r x n := by
  have hx := Nat.mod_lt x hn
  have h1 : (n : Int) ∣ ((r % n + (n - x % n) : Nat) : Int) - (crtD r x n : Int) := by
    have e : ((r % n + (n - x % n) : Nat) : Int) - (crtD r x n : Int) = ((r : Int) - (x : Int) - (crtD r x n : Int)) + (n : Int) + (((r % n : Nat) : Int) - (r : Int)) - (((x % n : Nat) : Int) - (x : Int)) := by omega
    rw [e]
    exact Int.dvd_sub (Int.dvd_add (Int.dvd_add (crtD_spec hn) (Int.dvd_refl _)) (cong_mod n r)) (cong_mod n x)
  have := mod_of_sub h1
  rwa [Nat.mod_eq_of_lt (crtD_lt hn)] at this
theorem crt_T {r x l n s T : Nat} (hn : 0 < n) (hd : crtD r x n % Nat.gcd l n = 0) (hs : Cong n l (Nat.gcd l n) s) (hT : ((n / Nat.gcd l n : Nat) : Int) ∣ (T : Int) - ((crtD r x n / Nat.gcd l n : Nat) : Int) * (s : Int)) :
    (x + l * T) % n = r % n := by
  have hD := crtD_spec (r := r) (x := x) hn
  generalize crtD r x n = d at *
  have hg : 0 < Nat.gcd l n := Nat.gcd_pos_of_pos_right l hn
  obtain ⟨l', hl⟩ := Nat.gcd_dvd_left l n
  obtain ⟨p, hp⟩ := Nat.gcd_dvd_right l n
  have hnp : n / Nat.gcd l n = p := by conv => lhs; arg 1; rw [hp]
                                       exact Nat.mul_div_cancel_left p hg
  rw [hnp] at hT
  have hdk : d = Nat.gcd l n * (d / Nat.gcd l n) := by have := Nat.div_add_mod d (Nat.gcd l n); omega
  generalize d / Nat.gcd l n = k at *
  generalize Nat.gcd l n = g at *
  have el : (l : Int) = (g : Int) * (l' : Int) := by rw [← Int.natCast_mul, ← hl]
  have en : (n : Int) = (g : Int) * (p : Int) := by rw [← Int.natCast_mul, ← hp]
  have ed : (d : Int) = (g : Int) * (k : Int) := by rw [← Int.natCast_mul, ← hdk]
  obtain ⟨c, hc⟩ := hT
  refine mod_of_sub ?_
  have f1 : (n : Int) ∣ (l : Int) * ((T : Int) - (k : Int) * (s : Int)) := ⟨(l' : Int) * c, by
    rw [hc, el, en, Int.mul_assoc, Int.mul_assoc, Int.mul_left_comm (l' : Int)]⟩
  have f2 : (n : Int) ∣ (k : Int) * ((g : Int) - (s : Int) * (l : Int)) := Int.dvd_mul_of_dvd_right hs
  have e : ((x + l * T : Nat) : Int) - (r : Int) = (l : Int) * ((T : Int) - (k : Int) * (s : Int)) - (k : Int) * ((g : Int) - (s : Int) * (l : Int)) - ((r : Int) - (x : Int) - (d : Int)) := by
    rw [Int.natCast_add, Int.natCast_mul, Int.mul_sub, Int.mul_sub, ed, Int.mul_comm (k : Int) (g : Int), Int.mul_left_comm (l : Int), Int.mul_comm (l : Int) (s : Int)]
    omega
  rw [e]
  exact Int.dvd_sub (Int.dvd_sub f1 f2) hD
theorem CrtI.fail {rs ms : List Nat} {i x l : Nat} (h : CrtI rs ms i x l) (hn : 0 < nth ms i) (hd : crtD (nth rs i) x (nth ms i) % Nat.gcd l (nth ms i) ≠ 0) :
    ¬ ∃ X, ∀ j, j < i + 1 → X % nth ms j = nth rs j % nth ms j := by
  rintro ⟨X, hX⟩
  have e1 := h.2.2.2 X fun j hj => hX j (by omega)
  have e2 := hX i (by omega)
  apply hd
  have f1 : (l : Int) ∣ (X : Int) - (x : Int) := sub_of_mod (by rw [e1, Nat.mod_eq_of_lt h.1])
  have f2 : (nth ms i : Int) ∣ (X : Int) - (nth rs i : Int) := sub_of_mod e2
  have f3 := crtD_spec (r := nth rs i) (x := x) hn
  have g1 : (Nat.gcd l (nth ms i) : Int) ∣ (l : Int) := Int.natCast_dvd_natCast.2 (Nat.gcd_dvd_left _ _)
  have g2 : (Nat.gcd l (nth ms i) : Int) ∣ (nth ms i : Int) := Int.natCast_dvd_natCast.2 (Nat.gcd_dvd_right _ _)
  have g3 : (Nat.gcd l (nth ms i) : Int) ∣ (crtD (nth rs i) x (nth ms i) : Int) := by
    have e : (crtD (nth rs i) x (nth ms i) : Int) = ((X : Int) - (x : Int)) - ((X : Int) - (nth rs i : Int)) - ((nth rs i : Int) - (x : Int) - (crtD (nth rs i) x (nth ms i) : Int)) := by omega
    rw [e]
    exact Int.dvd_sub (Int.dvd_sub (Int.dvd_trans g1 f1) (Int.dvd_trans g2 f2)) (Int.dvd_trans g2 f3)
  exact Nat.mod_eq_zero_of_dvd (Int.natCast_dvd_natCast.1 g3)
theorem CrtI.small {rs ms : List Nat} {i x l t : Nat} (h : CrtI rs ms i x l) (ht : t < nth ms i / Nat.gcd l (nth ms i)) : x + l * t < Nat.lcm l (nth ms i) := by
  have e : Nat.lcm l (nth ms i) = l * (nth ms i / Nat.gcd l (nth ms i)) := by
    rw [Nat.lcm, Nat.mul_div_assoc _ (Nat.gcd_dvd_right _ _)]
  rw [e]
  have h2 : l * (t + 1) ≤ l * (nth ms i / Nat.gcd l (nth ms i)) := Nat.mul_le_mul_left _ ht
  rw [Nat.mul_add] at h2
  have := h.1
  omega
theorem CrtI.lt_W {rs ms : List Nat} {i x l : Nat} (h : CrtI rs ms i x l) (hm : ∀ j, j < i → nth ms j < W ^ 30) (hi : i ≤ ms.length) : l < W ^ (30 * i + 1) := by
  rw [h.2.1]
  clear h
  induction i with
  | zero => simpa [llcm] using W_gt
  | succ i ih =>
    rw [llcm_take (by omega)]
    have h1 := ih (fun j hj => hm j (by omega)) (by omega)
    have h2 := hm i (by omega)
    have h3 : Nat.lcm (llcm (ms.take i)) (nth ms i) ≤ llcm (ms.take i) * nth ms i := Nat.div_le_self _ _
    have h4 : llcm (ms.take i) * nth ms i ≤ llcm (ms.take i) * W ^ 30 := Nat.mul_le_mul_left _ (Nat.le_of_lt h2)
    have h5 : llcm (ms.take i) * W ^ 30 < W ^ (30 * i + 1) * W ^ 30 := Nat.mul_lt_mul_of_pos_right h1 (Nat.pow_pos W_pos)
    rw [← Nat.pow_add] at h5
    have e : 30 * (i + 1) + 1 = 30 * i + 1 + 30 := by omega
    rw [e]
    omega
end Go.Proofs.YtamfhmmcnlollaaGreat
namespace Go.Proofs.YtamfhmmcnlollaaGreat
open Go.RowKit
set_option linter.unusedVariables false

/-- what both Crt's give: no moduli of 0, an answer, or none -/
def CrS (w w' : World) (rs ms : List Nat) (n : Nat) (A1 : Option Addr) (n1 c1 : Nat) (A2 : Option Addr) (n2 c2 : Nat) (er : Int) : Prop :=
  ((A1 = none ∧ n1 = 0 ∧ c1 = 0) ∧ (A2 = none ∧ n2 = 0 ∧ c2 = 0) ∧ (er = 1 ∧ (∃ i, i < n ∧ nth ms i = 0) ∨ er = 4 ∧ (∀ i, i < n → 0 < nth ms i) ∧ ¬ ∃ X, ∀ j, j < n → X % nth ms j = nth rs j % nth ms j)) ∨
  (er = 0 ∧ (∀ i, i < n → 0 < nth ms i) ∧ ∃ x l, CrtI rs ms n x l ∧ Own .u64 41 w.heap.size w' A1 n1 c1 (dg W x) ∧ Own .u64 41 w.heap.size w' A2 n2 c2 (dg W l))
def GCr (w : World) (rs ms : List Nat) (n L : Nat) (e : Ending) (w' : World) : Prop :=
  ∃ A1 n1 c1 A2 n2 c2 er, e = .returned (.tuple #[.slice A1 n1 c1, .slice A2 n2 c2, .int .i64 er]) ∧ Below w.heap.size w w' ∧ n1 ≤ L ∧ n2 ≤ L ∧ Hid (CrS w w' rs ms n A1 n1 c1 A2 n2 c2 er)
theorem CrtI.nofail {rs ms : List Nat} {i n : Nat} (h : ¬ ∃ X, ∀ j, j < i + 1 → X % nth ms j = nth rs j % nth ms j) (hi : i < n) : ¬ ∃ X, ∀ j, j < n → X % nth ms j = nth rs j % nth ms j :=
  fun ⟨X, hX⟩ => h ⟨X, fun j hj => hX j (by omega)⟩
theorem crt_prog {rs ms : List Nat} {i x l s : Nat} (h : CrtI rs ms i x l) (hi : i < ms.length) (hn : 0 < nth ms i) (hd : crtD (nth rs i) x (nth ms i) % Nat.gcd l (nth ms i) = 0) (hs : Cong (nth ms i) l (Nat.gcd l (nth ms i)) s) (hp : 0 < nth ms i / Nat.gcd l (nth ms i)) :
    CrtI rs ms (i + 1) (x + l * (crtD (nth rs i) x (nth ms i) / Nat.gcd l (nth ms i) * s % (nth ms i / Nat.gcd l (nth ms i)))) (Nat.lcm l (nth ms i)) := by
  have hT := crt_T (r := nth rs i) (x := x) (T := crtD (nth rs i) x (nth ms i) / Nat.gcd l (nth ms i) * s % (nth ms i / Nat.gcd l (nth ms i))) hn hd hs (by rw [← Int.natCast_mul]; exact cong_mod _ _)
  have h1 := h.step hi hn hT
  rwa [Nat.mod_eq_of_lt (h.small (Nat.mod_lt _ hp))] at h1
theorem CrtI.lens {rs ms : List Nat} {i x l M : Nat} (h : CrtI rs ms i x l) (hm : ∀ j, j < i → nth ms j < W ^ 30) (hi : i ≤ ms.length) (h20 : 30 * i + 1 ≤ M) : x < W ^ M ∧ l < W ^ M := by
  have h1 := h.lt_W hm hi
  have h2 : W ^ (30 * i + 1) ≤ W ^ M := Nat.pow_le_pow_right W_pos h20
  have := h.1
  exact ⟨by omega, by omega⟩
end Go.Proofs.YtamfhmmcnlollaaGreat
namespace Go.Proofs.YtamfhmmcnlollaaGreat
open Go.RowKit
set_option linter.unusedVariables false

theorem ext_congG {a m x y : Nat} {neg : Bool} (h : ExtOk a m x y neg) : Cong m a (Nat.gcd a m) x := by
  obtain ⟨Y, e, _, _⟩ := ext_int h
  exact ⟨Y, by rw [e, Int.mul_comm (m : Int)]; omega⟩
theorem crt_ref {rs ms : List Nat} {i x l s : Nat} (h : CrtI rs ms i x l) (hi : i < ms.length) (hn : 0 < nth ms i) (hd : crtD (nth rs i) x (nth ms i) % Nat.gcd l (nth ms i) = 0) (hs : Cong (nth ms i) l (Nat.gcd l (nth ms i)) s) :
    CrtI rs ms (i + 1) ((sg false x + sg false (((sg false s * sg false (crtD (nth rs i) x (nth ms i) / Nat.gcd l (nth ms i))) % (nth ms i : Int)).toNat) * sg false l) % (Nat.lcm l (nth ms i) : Int)).toNat (Nat.lcm l (nth ms i)) := by
  have e1 : ((sg false s * sg false (crtD (nth rs i) x (nth ms i) / Nat.gcd l (nth ms i))) % (nth ms i : Int)).toNat = s * (crtD (nth rs i) x (nth ms i) / Nat.gcd l (nth ms i)) % nth ms i := by
    rw [sg_false, sg_false, ← Int.natCast_mul, mod_pos]
  rw [e1]
  have hT := crt_T (r := nth rs i) (x := x) (T := s * (crtD (nth rs i) x (nth ms i) / Nat.gcd l (nth ms i)) % nth ms i) hn hd hs (by
    have h1 := cong_mod (nth ms i) (s * (crtD (nth rs i) x (nth ms i) / Nat.gcd l (nth ms i)))
    rw [Int.natCast_mul s, Int.mul_comm (s : Int)] at h1
    refine Int.dvd_trans (Int.natCast_dvd_natCast.2 ?_) h1
    exact ⟨_, (Nat.div_mul_cancel (Nat.gcd_dvd_right l (nth ms i))).symm⟩)
  have h1 := h.step hi hn hT
  generalize s * (crtD (nth rs i) x (nth ms i) / Nat.gcd l (nth ms i)) % nth ms i = T at *
  have e2 : ((sg false x + sg false T * sg false l) % (Nat.lcm l (nth ms i) : Int)).toNat = (x + l * T) % Nat.lcm l (nth ms i) := by
    rw [sg_false, sg_false, sg_false, ← Int.natCast_mul, ← Int.natCast_add, mod_pos, Nat.mul_comm T]
  rw [e2]; exact h1
set_option maxHeartbeats 16000000 in
set_option maxRecDepth 100000 in
theorem crt5_any {A A' : Option Addr} {n c d : Nat} {rs ms ls ks : List Nat} {w : World} (h : Nums w A n c rs ls) (h' : Nums w A' n d ms ks) (hl : ∀ i, nth ls i ≤ 30) (hk : ∀ i, nth ks i ≤ 30) (hn : n ≤ 20) :
    Calls Tryz.prog 42 #[.slice A n c, .slice A' n d] w (GCr w rs ms n 1203) := by
  have H := Lib.hid h
  have H' := Lib.hid h'
  have HL := Lib.hid hl
  have HK := Lib.hid hk
  have HLEN : Hid (ms.length = n) := h'.1.1
  have HM30 : Hid (∀ j, j < n → nth ms j < W ^ 30) := fun j hj => by
    obtain ⟨_, _, v, _, _, _, hv⟩ := h'.at hj
    exact Nat.lt_of_lt_of_le hv.lt (Nat.pow_le_pow_right W_pos (hk j))
  have h1W : Hid (1 < W) := W_gt
  clear h h' hl hk
  go_enter Tryz.func42, Tryz.ntmps42
  go_wp2
  go_loopw [7] (fun iv wr => ∃ i : Nat, Hid (Below w.heap.size w wr ∧ ∀ j, j < i → 0 < nth ms j) ∧ i ≤ n ∧ iv = .int .i64 (i : Int)) (fun iv _ => n - (intOf iv).toNat)
  case atStart => exact ⟨0, ⟨Below.refl _ _, fun j hj => by omega⟩, Nat.zero_le _, rfl⟩
  case round =>
    obtain ⟨i, hI, hi, rfl⟩ := hrel
    obtain ⟨wo, rfl⟩ : ∃ wo : World, wo = wr := ⟨_, rfl⟩
    by_cases hlt : i < n
    · have i0 : (0 : Int) ≤ (i : Int) := by omega
      have i1 : (i : Int) < (n : Int) := by omega
      obtain ⟨b, off, v, ea, hb, hca, hv⟩ := (H'.out.below hI.out.1).at hlt
      have HV := Lib.hid (hv.mono (HK.out i))
      have HC := Lib.hid (show At wo ⟨b, off + i, none⟩ v from ⟨hca, hb⟩)
      have HEA := Lib.hid ea
      subst ea
      obtain ⟨_, _, _, _, rfl, _⟩ := id hv
      clear hca hb hv
      have hc1 := HC.out.1
      rcases Nat.eq_zero_or_pos (nth ms i) with hz | hz
      · have HZ := Lib.hid hz
        have q0 : decide (nth ms i = 0) = true := by simpa using hz
        clear hz
        go_wp2_with fail
        refine (zero5_any HV.out (by omega)).mono ?_
        rintro e w1 ⟨rfl, hb1⟩
        have HBF := Lib.hid (bt hI.out.1 hb1)
        go_wp2
        go_ret3
        exact ⟨_, _, _, _, _, _, _, rfl, HBF.out, Nat.zero_le _, Nat.zero_le _, .inl ⟨⟨rfl, rfl, rfl⟩, ⟨rfl, rfl, rfl⟩, .inl ⟨rfl, i, hlt, HZ.out⟩⟩⟩
      · have HZ := Lib.hid hz
        have q0 : decide (nth ms i = 0) = false := by simp; omega
        clear hz
        go_wp2_with fail
        refine (zero5_any HV.out (by omega)).mono ?_
        rintro e w2 ⟨rfl, hb2⟩
        have HNX : Hid (Below w.heap.size w w2 ∧ ∀ j, j < i + 1 → 0 < nth ms j) := ⟨bt hI.out.1 hb2, fun j hj => by
          rcases (show j < i ∨ j = i by omega) with h1 | h1
          · exact hI.out.2 j h1
          · rw [h1]; exact HZ.out⟩
        go_wp2
        go_roundw
        case rel => exact ⟨i + 1, HNX, hlt, by go_num⟩
        case measure => simp [intOf]; omega
    · obtain rfl : n = i := by omega
      have HPOS := Lib.hid hI.out.2
      go_wp2_with fail
      refine (word5_any (x := 1) (x' := 1) rfl (by omega)).mono ?_
      rintro e w3 ⟨A_o, n_o, c_o, rfl, o_o, hb3, l_o⟩
      have HB2 := Lib.hid hb3
      have HS : Hid (Own .u64 41 w.heap.size w3 A_o n_o c_o (dg W 1) ∧ Below w.heap.size w w3) := ⟨(o_o.mono ((Below.refl _ _).alloc (Nat.le_refl _) _).size).mono hI.out.1.size, bt hI.out.1 (bt ((Below.refl _ _).alloc (Nat.le_refl _) _) hb3)⟩
      clear o_o hlt hi
      go_wp2
      go_loopw [8, 9, 10] (fun xv lv iv wr => ∃ (k x l : Nat) (Ax : Option Addr) (nx cx : Nat) (Al : Option Addr) (nl cl : Nat), Hid (CrtI rs ms k x l ∧ Own .u64 41 w.heap.size wr Ax nx cx (dg W x) ∧ Own .u64 41 w.heap.size wr Al nl cl (dg W l) ∧ Below w.heap.size w wr) ∧ k ≤ n ∧ nx ≤ 601 ∧ nl ≤ 601 ∧ xv = .slice Ax nx cx ∧ lv = .slice Al nl cl ∧ iv = .int .i64 (k : Int)) (fun _ _ iv _ => n - (intOf iv).toNat)
      case atStart =>
        refine ⟨0, 0, 1, _, _, _, _, _, _, ⟨CrtI.start rs ms, ?_, HS.out.1, HS.out.2⟩, Nat.zero_le _, Nat.zero_le _, by omega, rfl, rfl, rfl⟩
        show Own _ _ _ _ _ _ _ (dg W 0)
        rw [dg_zero W_gt]
        exact (Own.lit (k := .u64) (t := 41) _ [] (by simp [maxLen]) hI.out.1.size).below HB2.out
      case round =>
        clear hI HS HB2
        obtain ⟨i, x, l, A_x, n_x, c_x, A_l, n_l, c_l, hI, hi, hnx, hnl, rfl, rfl, rfl⟩ := hrel
        obtain ⟨wo, rfl⟩ : ∃ wo : World, wo = wr := ⟨_, rfl⟩
        by_cases hlt : i < n
        · have i0 : (0 : Int) ≤ (i : Int) := by omega
          have i1 : (i : Int) < (n : Int) := by omega
          have HP : Hid (0 < nth ms i) := HPOS.out i hlt
          obtain ⟨b, off, v, ea, hb, hca, hv⟩ := (H'.out.below hI.out.2.2.2).at hlt
          have HV := Lib.hid (hv.mono (HK.out i))
          have HC := Lib.hid (show At wo ⟨b, off + i, none⟩ v from ⟨hca, hb⟩)
          have HEA := Lib.hid ea
          subst ea
          obtain ⟨_, _, _, _, rfl, _⟩ := id hv
          clear hca hb hv
          obtain ⟨b2, off2, v2, ea2, hb2', hca2, hv2⟩ := (H.out.below hI.out.2.2.2).at hlt
          have HV2 := Lib.hid (hv2.mono (HL.out i))
          have HC2 := Lib.hid (show At wo ⟨b2, off2 + i, none⟩ v2 from ⟨hca2, hb2'⟩)
          subst ea2
          obtain ⟨_, _, _, _, rfl, _⟩ := id hv2
          clear hca2 hb2' hv2
          have HG : Hid (0 < Nat.gcd l (nth ms i)) := Nat.gcd_pos_of_pos_right _ HP.out
          have HLC : Hid (0 < Nat.lcm l (nth ms i)) := Nat.lcm_pos (Nat.lt_of_le_of_lt (Nat.zero_le _) hI.out.1.1) HP.out
          have hc1 := HC.out.1
          go_wp2_with fail
          refine (extended5_any (K := 601) (hI.out.2.2.1.num hnl) (HV.out.mono (by omega)) (by omega) (by omega)).mono ?_
          rintro e w1 ⟨vs, vy, neg_, A_g, n_g, c_g, A_s, n_s, c_s, A_y, n_y, c_y, hExt, rfl, ⟨o_g, o_s, o_y⟩, hb1, l_g, l_s, l_y⟩
          have HE := Lib.hid hExt
          have HCG := Lib.hid (ext_congG hExt)
          clear hExt hc1
          go_wp2_with fail
          have e_cr := (((HC2.out.below hb1).below ((Below.refl _ _).alloc (Nat.le_refl _) (.cells #[.bool false, .slice A_s n_s c_s] 60))).below ((Below.refl _ _).alloc (Nat.le_refl _) (.cells #[.bool neg_, .slice A_y n_y c_y] 60))).1
          have g_cr := At.grow (((HC2.out.below hb1).below ((Below.refl _ _).alloc (Nat.le_refl _) (.cells #[.bool false, .slice A_s n_s c_s] 60))).below ((Below.refl _ _).alloc (Nat.le_refl _) (.cells #[.bool neg_, .slice A_y n_y c_y] 60)))
          have e_ci := (((HC.out.below hb1).below ((Below.refl _ _).alloc (Nat.le_refl _) (.cells #[.bool false, .slice A_s n_s c_s] 60))).below ((Below.refl _ _).alloc (Nat.le_refl _) (.cells #[.bool neg_, .slice A_y n_y c_y] 60))).1
          have g_ci := At.grow (((HC.out.below hb1).below ((Below.refl _ _).alloc (Nat.le_refl _) (.cells #[.bool false, .slice A_s n_s c_s] 60))).below ((Below.refl _ _).alloc (Nat.le_refl _) (.cells #[.bool neg_, .slice A_y n_y c_y] 60)))
          refine wp_region_grow none [(true, 0), (true, 1), (true, 2), (true, 3), (true, 5), (true, 8), (true, 9), (true, 10), (true, 11), (false, 4), (false, 6), (false, 7), (false, 12), (true, 13)] (by kernel_rfl) (by kernel_rfl) ?_
          repeat (refine ord_pas (by rfl) (fun K hK => ?_); go_simp; refine hK _ _ (fun w' hw' => (by first | (go_simp; done) | (go_simp; intro hh; cases hh))) ?_; clear hK K)
          (refine ord_call (by rfl) (fun K hK => ?_); go_simp; refine hK _ _ ?_; clear hK K)
          refine (I5_any (s := false) ((((HV2.out.below hb1).below ((Below.refl _ _).alloc (Nat.le_refl _) (.cells #[.bool false, .slice A_s n_s c_s] 60))).below ((Below.refl _ _).alloc (Nat.le_refl _) (.cells #[.bool neg_, .slice A_y n_y c_y] 60))).below (Below.refl _ _).drew) (by omega)).mono ?_
          rintro e w2 ⟨A_i1, n_i1, c_i1, s_i1, rfl, hs_i1, o_i1, hb2, l_i1⟩
          refine ⟨_, rfl, Grow.of_below hb2, ?_⟩
          (refine ord_norm (fun K hK => ?_); go_simp; refine hK _ ?_; clear hK K)
          (refine ord_call (by rfl) (fun K hK => ?_); go_simp; refine hK _ _ ?_; clear hK K)
          refine (I5_any (s := false) ((((((hI.out.2.1.num hnx).below hb1).below ((Below.refl _ _).alloc (Nat.le_refl _) (.cells #[.bool false, .slice A_s n_s c_s] 60))).below ((Below.refl _ _).alloc (Nat.le_refl _) (.cells #[.bool neg_, .slice A_y n_y c_y] 60))).below (Below.refl _ _).drew).below hb2) (by omega)).mono ?_
          rintro e w3 ⟨A_i2, n_i2, c_i2, s_i2, rfl, hs_i2, o_i2, hb3, l_i2⟩
          refine ⟨_, rfl, Grow.of_below hb3, ?_⟩
          (refine ord_norm (fun K hK => ?_); go_simp; refine hK _ ?_; clear hK K)
          (refine ord_call (by rfl) (fun K hK => ?_); go_simp; refine hK _ _ ?_; clear hK K)
          refine (sub5_any ((o_i1.num l_i1).below hb3) (o_i2.num l_i2) (sg_of hs_i1.out) (sg_of hs_i2.out) (by omega) (by omega) (by omega) (by omega)).mono ?_
          rintro e w4 ⟨A_d1, n_d1, c_d1, s_d1, rfl, hs_d1, o_d1, hb4, l_d1⟩
          refine ⟨_, rfl, Grow.of_below hb4, ?_⟩
          (refine ord_norm (fun K hK => ?_); go_simp; refine hK _ ?_; clear hK K)
          (refine ord_call (by rfl) (fun K hK => ?_); go_simp; refine hK _ _ ?_; clear hK K)
          refine (mod5_any (o_d1.num l_d1) (((((((HV.out.below hb1).below ((Below.refl _ _).alloc (Nat.le_refl _) (.cells #[.bool false, .slice A_s n_s c_s] 60))).below ((Below.refl _ _).alloc (Nat.le_refl _) (.cells #[.bool neg_, .slice A_y n_y c_y] 60))).below (Below.refl _ _).drew).below hb2).below hb3).below hb4) (sg_of hs_d1.out) HP.out (by omega) (by omega) (by omega) (by omega)).mono ?_
          rintro e w5 ⟨A_wt, n_wt, c_wt, rfl, o_wt, hb5, l_wt⟩
          refine ⟨_, rfl, Grow.of_below hb5, ?_⟩
          (refine ord_norm (fun K hK => ?_); go_simp; refine hK _ ?_; clear hK K)
          have hD : ((sg false (nth rs i) - sg false x) % ((nth ms i : Nat) : Int)).toNat = crtD (nth rs i) x (nth ms i) := rfl
          rw [hD] at o_wt
          clear hD
          repeat (refine ord_pas (by rfl) (fun K hK => ?_); go_simp; refine hK _ _ (fun w' hw' => (by first | (go_simp; done) | (go_simp; intro hh; cases hh))) ?_; clear hK K)
          refine ord_nil ?_
          clear g_cr e_cr g_ci e_ci
          clear o_i1 o_i2 o_d1
          rcases Nat.eq_zero_or_pos (crtD (nth rs i) x (nth ms i) % Nat.gcd l (nth ms i)) with h0 | h0
          · have CZ : Hid (∀ (w : World) (v : Value), Num w v (crtD (nth rs i) x (nth ms i) % Nat.gcd l (nth ms i)) (2 * 601 + 1) → Calls Tryz.prog 89 #[v] w (Keeps (.bool true) w)) := fun w v h => by
              have := zero5_any h (by omega)
              rwa [decide_eq_true h0] at this
            have HNS := Lib.hid (crt_ref hI.out.1 (by rw [HLEN.out]; exact hlt) HP.out h0 HCG.out)
            have HLE := Lib.hid (HNS.out.lens (M := 601) (fun j hj => HM30.out j (by omega)) (by rw [HLEN.out]; exact hlt) (by omega))
            clear h0
            go_wp2_with fail
            refine (quo5_any (o_wt.num l_wt) ((((((((o_g.num l_g).below ((Below.refl _ _).alloc (Nat.le_refl _) (.cells #[.bool false, .slice A_s n_s c_s] 60))).below ((Below.refl _ _).alloc (Nat.le_refl _) (.cells #[.bool neg_, .slice A_y n_y c_y] 60))).below (Below.refl _ _).drew).below hb2).below hb3).below hb4).below hb5) HG.out (by omega) (by omega) (by omega) (by omega)).mono ?_
            rintro e w6 ⟨A_k, n_k, c_k, A_lf, n_lf, c_lf, rfl, o_k, o_lf, hb6, l_k, l_lf⟩
            go_wp2_with fail
            refine (CZ.out _ _ (o_lf.num l_lf)).mono ?_
            rintro e w7 ⟨rfl, hb7⟩
            go_wp2_with fail
            have e_x0 := (((((((((At.boxc (i := 0) (v := .bool false) (t := 60) (b := w1.heap.size) w1 #[.bool false, .slice A_s n_s c_s] rfl (by simp)).below ((Below.refl _ _).alloc (Nat.le_refl _) (.cells #[.bool neg_, .slice A_y n_y c_y] 60))).below (Below.refl _ _).drew).below hb2).below hb3).below hb4).below hb5).below hb6).below hb7).1
            have g_x0 := At.grow (((((((((At.boxc (i := 0) (v := .bool false) (t := 60) (b := w1.heap.size) w1 #[.bool false, .slice A_s n_s c_s] rfl (by simp)).below ((Below.refl _ _).alloc (Nat.le_refl _) (.cells #[.bool neg_, .slice A_y n_y c_y] 60))).below (Below.refl _ _).drew).below hb2).below hb3).below hb4).below hb5).below hb6).below hb7)
            have e_x1 := (((((((((At.boxc (i := 1) (v := .slice A_s n_s c_s) (t := 60) (b := w1.heap.size) w1 #[.bool false, .slice A_s n_s c_s] rfl (by simp)).below ((Below.refl _ _).alloc (Nat.le_refl _) (.cells #[.bool neg_, .slice A_y n_y c_y] 60))).below (Below.refl _ _).drew).below hb2).below hb3).below hb4).below hb5).below hb6).below hb7).1
            have g_x1 := At.grow (((((((((At.boxc (i := 1) (v := .slice A_s n_s c_s) (t := 60) (b := w1.heap.size) w1 #[.bool false, .slice A_s n_s c_s] rfl (by simp)).below ((Below.refl _ _).alloc (Nat.le_refl _) (.cells #[.bool neg_, .slice A_y n_y c_y] 60))).below (Below.refl _ _).drew).below hb2).below hb3).below hb4).below hb5).below hb6).below hb7)
            have e_ci := ((((((((((HC.out.below hb1).below ((Below.refl _ _).alloc (Nat.le_refl _) (.cells #[.bool false, .slice A_s n_s c_s] 60))).below ((Below.refl _ _).alloc (Nat.le_refl _) (.cells #[.bool neg_, .slice A_y n_y c_y] 60))).below (Below.refl _ _).drew).below hb2).below hb3).below hb4).below hb5).below hb6).below hb7).1
            have g_ci := At.grow ((((((((((HC.out.below hb1).below ((Below.refl _ _).alloc (Nat.le_refl _) (.cells #[.bool false, .slice A_s n_s c_s] 60))).below ((Below.refl _ _).alloc (Nat.le_refl _) (.cells #[.bool neg_, .slice A_y n_y c_y] 60))).below (Below.refl _ _).drew).below hb2).below hb3).below hb4).below hb5).below hb6).below hb7)
            refine wp_region_grow none [(true, 0), (true, 1), (true, 4), (true, 5), (true, 6), (true, 7), (false, 2), (false, 3), (false, 8), (true, 9)] (by kernel_rfl) (by kernel_rfl) ?_
            repeat (refine ord_pas (by rfl) (fun K hK => ?_); go_simp; refine hK _ _ (fun w' hw' => (by first | (go_simp; done) | (go_simp; intro hh; cases hh))) ?_; clear hK K)
            (refine ord_call (by rfl) (fun K hK => ?_); go_simp; refine hK _ _ ?_; clear hK K)
            refine (I5_any (s := false) (((o_k.num l_k).below hb7).below (Below.refl _ _).drew) (by omega)).mono ?_
            rintro e w8 ⟨A_j1, n_j1, c_j1, s_j1, rfl, hs_j1, o_j1, hb8, l_j1⟩
            refine ⟨_, rfl, Grow.of_below hb8, ?_⟩
            (refine ord_norm (fun K hK => ?_); go_simp; refine hK _ ?_; clear hK K)
            (refine ord_call (by rfl) (fun K hK => ?_); go_simp; refine hK _ _ ?_; clear hK K)
            refine (mul5_any ((((((((((((o_s.num l_s).below ((Below.refl _ _).alloc (Nat.le_refl _) (.cells #[.bool false, .slice A_s n_s c_s] 60))).below ((Below.refl _ _).alloc (Nat.le_refl _) (.cells #[.bool neg_, .slice A_y n_y c_y] 60))).below (Below.refl _ _).drew).below hb2).below hb3).below hb4).below hb5).below hb6).below hb7).below (Below.refl _ _).drew).below hb8) (o_j1.num l_j1) rfl (sg_of hs_j1.out) (by omega) (by omega)).mono ?_
            rintro e w9 ⟨A_m1, n_m1, c_m1, s_m1, rfl, hs_m1, o_m1, hb9, l_m1⟩
            refine ⟨_, rfl, Grow.of_below hb9, ?_⟩
            (refine ord_norm (fun K hK => ?_); go_simp; refine hK _ ?_; clear hK K)
            (refine ord_call (by rfl) (fun K hK => ?_); go_simp; refine hK _ _ ?_; clear hK K)
            refine (mod5_any (o_m1.num l_m1) (((((((((((((HV.out.below hb1).below ((Below.refl _ _).alloc (Nat.le_refl _) (.cells #[.bool false, .slice A_s n_s c_s] 60))).below ((Below.refl _ _).alloc (Nat.le_refl _) (.cells #[.bool neg_, .slice A_y n_y c_y] 60))).below (Below.refl _ _).drew).below hb2).below hb3).below hb4).below hb5).below hb6).below hb7).below (Below.refl _ _).drew).below hb8).below hb9) (sg_of hs_m1.out) HP.out (by omega) (by omega) (by omega) (by omega)).mono ?_
            rintro e w10 ⟨A_t, n_t, c_t, rfl, o_t, hb10, l_t⟩
            refine ⟨_, rfl, Grow.of_below hb10, ?_⟩
            (refine ord_norm (fun K hK => ?_); go_simp; refine hK _ ?_; clear hK K)
            repeat (refine ord_pas (by rfl) (fun K hK => ?_); go_simp; refine hK _ _ (fun w' hw' => (by first | (go_simp; done) | (go_simp; intro hh; cases hh))) ?_; clear hK K)
            refine ord_nil ?_
            clear g_x0 e_x0 g_x1 e_x1 g_ci e_ci
            clear o_j1 o_m1 o_lf
            have hc1 := ((((((((((((((HC.out.below hb1).below ((Below.refl _ _).alloc (Nat.le_refl _) (.cells #[.bool false, .slice A_s n_s c_s] 60))).below ((Below.refl _ _).alloc (Nat.le_refl _) (.cells #[.bool neg_, .slice A_y n_y c_y] 60))).below (Below.refl _ _).drew).below hb2).below hb3).below hb4).below hb5).below hb6).below hb7).below (Below.refl _ _).drew).below hb8).below hb9).below hb10).1
            go_wp2_with fail
            refine (lcm5_any (((((((((((((((hI.out.2.2.1.num hnl).below hb1).below ((Below.refl _ _).alloc (Nat.le_refl _) (.cells #[.bool false, .slice A_s n_s c_s] 60))).below ((Below.refl _ _).alloc (Nat.le_refl _) (.cells #[.bool neg_, .slice A_y n_y c_y] 60))).below (Below.refl _ _).drew).below hb2).below hb3).below hb4).below hb5).below hb6).below hb7).below (Below.refl _ _).drew).below hb8).below hb9).below hb10) ((((((((((((((HV.out.below hb1).below ((Below.refl _ _).alloc (Nat.le_refl _) (.cells #[.bool false, .slice A_s n_s c_s] 60))).below ((Below.refl _ _).alloc (Nat.le_refl _) (.cells #[.bool neg_, .slice A_y n_y c_y] 60))).below (Below.refl _ _).drew).below hb2).below hb3).below hb4).below hb5).below hb6).below hb7).below (Below.refl _ _).drew).below hb8).below hb9).below hb10) (by omega) (by omega) (by omega) (by omega)).mono ?_
            rintro e w11 ⟨A_l2, n_l2, c_l2, rfl, o_l2, hb11, l_l2⟩
            clear hc1
            have ll2 : n_l2 ≤ 601 := by rw [← o_l2.len]; exact dgl HLE.out.2
            go_wp2_with fail
            refine (I5_any (s := false) ((((((((((((((((hI.out.2.1.num hnx).below hb1).below ((Below.refl _ _).alloc (Nat.le_refl _) (.cells #[.bool false, .slice A_s n_s c_s] 60))).below ((Below.refl _ _).alloc (Nat.le_refl _) (.cells #[.bool neg_, .slice A_y n_y c_y] 60))).below (Below.refl _ _).drew).below hb2).below hb3).below hb4).below hb5).below hb6).below hb7).below (Below.refl _ _).drew).below hb8).below hb9).below hb10).below hb11) (by omega)).mono ?_
            rintro e w12 ⟨A_a1, n_a1, c_a1, s_a1, rfl, hs_a1, o_a1, hb12, l_a1⟩
            go_wp2_with fail
            refine (I5_any (s := false) (((o_t.num l_t).below hb11).below hb12) (by omega)).mono ?_
            rintro e w13 ⟨A_a2, n_a2, c_a2, s_a2, rfl, hs_a2, o_a2, hb13, l_a2⟩
            go_wp2_with fail
            refine (I5_any (s := false) ((((((((((((((((((hI.out.2.2.1.num hnl).below hb1).below ((Below.refl _ _).alloc (Nat.le_refl _) (.cells #[.bool false, .slice A_s n_s c_s] 60))).below ((Below.refl _ _).alloc (Nat.le_refl _) (.cells #[.bool neg_, .slice A_y n_y c_y] 60))).below (Below.refl _ _).drew).below hb2).below hb3).below hb4).below hb5).below hb6).below hb7).below (Below.refl _ _).drew).below hb8).below hb9).below hb10).below hb11).below hb12).below hb13) (by omega)).mono ?_
            rintro e w14 ⟨A_a3, n_a3, c_a3, s_a3, rfl, hs_a3, o_a3, hb14, l_a3⟩
            go_wp2_with fail
            refine (mul5_any ((o_a2.num l_a2).below hb14) (o_a3.num l_a3) (sg_of hs_a2.out) (sg_of hs_a3.out) (by omega) (by omega)).mono ?_
            rintro e w15 ⟨A_m2, n_m2, c_m2, s_m2, rfl, hs_m2, o_m2, hb15, l_m2⟩
            go_wp2_with fail
            refine (add5_any ((((o_a1.num l_a1).below hb13).below hb14).below hb15) (o_m2.num l_m2) (sg_of hs_a1.out) (sg_of hs_m2.out) (by omega) (by omega) (by omega) (by omega)).mono ?_
            rintro e w16 ⟨A_a4, n_a4, c_a4, s_a4, rfl, hs_a4, o_a4, hb16, l_a4⟩
            go_wp2_with fail
            refine (mod5_any (o_a4.num l_a4) ((((((o_l2.num l_l2).below hb12).below hb13).below hb14).below hb15).below hb16) (sg_of hs_a4.out) HLC.out (by omega) (by omega) (by omega) (by omega)).mono ?_
            rintro e w17 ⟨A_x2, n_x2, c_x2, rfl, o_x2, hb17, l_x2⟩
            have lx2 : n_x2 ≤ 601 := by rw [← o_x2.len]; exact dgl HLE.out.1
            have HNX := Lib.hid (And.intro HNS.out (And.intro ((o_x2.mono (bt (bt (bt (bt (bt (bt (bt (bt (bt (bt (bt (bt (bt (bt (bt (bt (bt (bt (bt hb1 ((Below.refl _ _).alloc (Nat.le_refl _) (.cells #[.bool false, .slice A_s n_s c_s] 60))) ((Below.refl _ _).alloc (Nat.le_refl _) (.cells #[.bool neg_, .slice A_y n_y c_y] 60))) (Below.refl _ _).drew) hb2) hb3) hb4) hb5) hb6) hb7) (Below.refl _ _).drew) hb8) hb9) hb10) hb11) hb12) hb13) hb14) hb15) hb16).size).mono hI.out.2.2.2.size) (And.intro ((((((((o_l2.mono (bt (bt (bt (bt (bt (bt (bt (bt (bt (bt (bt (bt (bt hb1 ((Below.refl _ _).alloc (Nat.le_refl _) (.cells #[.bool false, .slice A_s n_s c_s] 60))) ((Below.refl _ _).alloc (Nat.le_refl _) (.cells #[.bool neg_, .slice A_y n_y c_y] 60))) (Below.refl _ _).drew) hb2) hb3) hb4) hb5) hb6) hb7) (Below.refl _ _).drew) hb8) hb9) hb10).size).below hb12).below hb13).below hb14).below hb15).below hb16).below hb17).mono hI.out.2.2.2.size) (bt hI.out.2.2.2 (bt (bt (bt (bt (bt (bt (bt (bt (bt (bt (bt (bt (bt (bt (bt (bt (bt (bt (bt (bt hb1 ((Below.refl _ _).alloc (Nat.le_refl _) (.cells #[.bool false, .slice A_s n_s c_s] 60))) ((Below.refl _ _).alloc (Nat.le_refl _) (.cells #[.bool neg_, .slice A_y n_y c_y] 60))) (Below.refl _ _).drew) hb2) hb3) hb4) hb5) hb6) hb7) (Below.refl _ _).drew) hb8) hb9) hb10) hb11) hb12) hb13) hb14) hb15) hb16) hb17)))))
            clear o_g o_s o_y o_wt o_k o_t o_l2 o_a1 o_a2 o_a3 o_m2 o_a4 o_x2 HNS HLE
            go_wp2
            go_roundw
            case rel => exact ⟨i + 1, _, _, _, _, _, _, _, _, HNX, hlt, lx2, ll2, rfl, rfl, by go_num⟩
            case measure => simp [intOf]; omega
          · have CZ : Hid (∀ (w : World) (v : Value), Num w v (crtD (nth rs i) x (nth ms i) % Nat.gcd l (nth ms i)) (2 * 601 + 1) → Calls Tryz.prog 89 #[v] w (Keeps (.bool false) w)) := fun w v h => by
              have := zero5_any h (by omega)
              rwa [decide_eq_false (by omega)] at this
            have HF := Lib.hid (CrtI.nofail (hI.out.1.fail HP.out (by omega)) hlt)
            clear h0
            go_wp2_with fail
            refine (quo5_any (o_wt.num l_wt) ((((((((o_g.num l_g).below ((Below.refl _ _).alloc (Nat.le_refl _) (.cells #[.bool false, .slice A_s n_s c_s] 60))).below ((Below.refl _ _).alloc (Nat.le_refl _) (.cells #[.bool neg_, .slice A_y n_y c_y] 60))).below (Below.refl _ _).drew).below hb2).below hb3).below hb4).below hb5) HG.out (by omega) (by omega) (by omega) (by omega)).mono ?_
            rintro e w18 ⟨A_k, n_k, c_k, A_lf, n_lf, c_lf, rfl, o_k, o_lf, hb18, l_k, l_lf⟩
            go_wp2_with fail
            refine (CZ.out _ _ (o_lf.num l_lf)).mono ?_
            rintro e w19 ⟨rfl, hb19⟩
            have HBF := Lib.hid (bt hI.out.2.2.2 (bt (bt (bt (bt (bt (bt (bt (bt (bt hb1 ((Below.refl _ _).alloc (Nat.le_refl _) (.cells #[.bool false, .slice A_s n_s c_s] 60))) ((Below.refl _ _).alloc (Nat.le_refl _) (.cells #[.bool neg_, .slice A_y n_y c_y] 60))) (Below.refl _ _).drew) hb2) hb3) hb4) hb5) hb18) hb19))
            clear o_g o_s o_y o_wt o_k o_lf
            go_wp2
            go_ret3
            exact ⟨_, _, _, _, _, _, _, rfl, HBF.out, Nat.zero_le _, Nat.zero_le _, .inl ⟨⟨rfl, rfl, rfl⟩, ⟨rfl, rfl, rfl⟩, .inr ⟨rfl, HPOS.out, HF.out⟩⟩⟩
        · obtain rfl : n = i := by omega
          go_wp2
          go_ret3
          exact ⟨_, _, _, _, _, _, _, rfl, hI.out.2.2.2, by omega, by omega, .inr ⟨rfl, HPOS.out, _, _, hI.out.1, hI.out.2.1, hI.out.2.2.1⟩⟩
end Go.Proofs.YtamfhmmcnlollaaGreat
namespace Go.Proofs.YtamfhmmcnlollaaGreat
open Go.RowKit
set_option linter.unusedVariables false

theorem crt_exists {rs ms : List Nat} {X : Nat} : ∀ (i : Nat), i ≤ ms.length → (∀ j, j < i → 0 < nth ms j) → (∀ j, j < i → X % nth ms j = nth rs j % nth ms j) → ∃ x l, CrtI rs ms i x l
  | 0, _, _, _ => ⟨0, 1, CrtI.start rs ms⟩
  | i + 1, hi, hp, hX => by
    obtain ⟨x, l, h⟩ := crt_exists i (by omega) (fun j hj => hp j (by omega)) (fun j hj => hX j (by omega))
    have e := h.2.2.2 X fun j hj => hX j (by omega)
    refine ⟨_, _, h.step (T := X / l) (by omega) (hp i (by omega)) ?_⟩
    have e2 : x + l * (X / l) = X := by rw [← e]; exact Nat.mod_add_div X l
    rw [e2]
    exact hX i (by omega)
def GC3 (w : World) (xs ys : List Nat) (er : Int) (L : Nat) (e : Ending) (w' : World) : Prop :=
  ∃ A n c A2 n2 c2, e = .returned (.tuple #[.slice A n c, .slice A2 n2 c2, .int .i64 er]) ∧ Below w.heap.size w w' ∧ n ≤ L ∧ n2 ≤ L ∧ Rd .u64 w' A n c xs ∧ Rd .u64 w' A2 n2 c2 ys
theorem crt5_len {A A' : Option Addr} {n m c d : Nat} {w : World} (h : n ≠ m) : Calls Tryz.prog 42 #[.slice A n c, .slice A' m d] w (GC3 w [] [] 3 1203) := by
  have q0 : ((n : Int) != (m : Int)) = true := by simp; omega
  go_enter Tryz.func42, Tryz.ntmps42
  go_wp2
  go_ret3
  exact ⟨_, _, _, _, _, _, rfl, Below.refl _ _, Nat.zero_le _, Nat.zero_le _, rd_none, rd_none⟩
end Go.Proofs.YtamfhmmcnlollaaGreat
