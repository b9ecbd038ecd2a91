/-
  The document's Inverse (surdref05); inverses and Bezout's factors are unique. The plain law of the Chinese remainders: what the rounds keep, whichever way the factor was found. No program here. Walk: gcd.Crt. Walk: the document's Crt (surdref05). GcdExtends: Extended, Inverse, Crt, as the document's.
-/
import Derived.Test.YtbamhgpadfojfaaGreatExtX
import Derived.Test.YtbamhgpadfojfaaGreatGcdRt
import Derived.Test.YtbamhgpadfojfaaGreatGcdDv
namespace Go.Proofs.YtbamhgpadfojfaaGreat
open Go.RowKit
set_option linter.unusedVariables false

theorem ext_cong {a m x y : Nat} {neg : Bool} (h : ExtOk a m x y neg) (hg : Nat.gcd a m = 1) : Cong m a 1 x := by
  obtain ⟨h1, _, _⟩ := h
  rw [hg] at h1
  have e : (x : Int) * (a : Int) = ((x * a : Nat) : Int) := (Int.natCast_mul x a).symm
  have e2 : (m : Int) * (y : Int) = ((y * m : Nat) : Int) := by rw [Int.natCast_mul, Int.mul_comm]
  rcases h1 with ⟨_, _, h1⟩ | ⟨_, h1⟩
  · refine ⟨-(y : Int), ?_⟩
    rw [e, Int.mul_neg, e2]; omega
  · refine ⟨(y : Int), ?_⟩
    rw [e, e2]; omega
theorem inv_uniq {a m x x' : Nat} (h : Cong m a 1 x) (h' : Cong m a 1 x') (hx : x < m) (hx' : x' < m) : x = x' := by
  have h1 : (m : Int) ∣ ((x' : Int) - (x : Int)) * (a : Int) := by
    have := Int.dvd_sub h h'
    have e : ((1 : Nat) : Int) - (x : Int) * (a : Int) - (((1 : Nat) : Int) - (x' : Int) * (a : Int)) = ((x' : Int) - (x : Int)) * (a : Int) := by rw [Int.sub_mul]; omega
    rwa [e] at this
  have h2 : (m : Int) ∣ ((x' : Int) - (x : Int)) := by
    have e : ((x' : Int) - (x : Int)) = ((x' : Int) - (x : Int)) * (((1 : Nat) : Int) - (x : Int) * (a : Int)) + (x : Int) * (((x' : Int) - (x : Int)) * (a : Int)) := by
      rw [Int.mul_sub, Int.mul_left_comm (x : Int)]
      show _ = _ * 1 - _ + _
      omega
    rw [e]
    exact Int.dvd_add (Int.dvd_mul_of_dvd_right h) (Int.dvd_mul_of_dvd_right h1)
  have h3 := Int.emod_eq_emod_iff_emod_sub_eq_zero.2 (Int.emod_eq_zero_of_dvd h2)
  rw [Int.emod_eq_of_lt (by omega) (by omega), Int.emod_eq_of_lt (by omega) (by omega)] at h3
  omega
theorem some_exists : ∀ (a : Nat), 0 < a → ∀ b : Nat, ∃ z, SomeOk a b z := by
  intro a
  induction a using Nat.strongRecOn with
  | _ a ih =>
    intro ha b
    rcases Nat.eq_zero_or_pos (b % a) with hr | hr
    · exact ⟨1, some_one hr⟩
    · obtain ⟨y, ⟨k, h1⟩, h2⟩ := ih _ (Nat.mod_lt b ha) hr a
      exact ⟨_, some_step ha hr h1 h2⟩
theorem inv_exists {a m : Nat} (hm : 0 < m) (hg : Nat.gcd a m = 1) : ∃ x, x < m ∧ Cong m a 1 x := by
  rcases Nat.eq_zero_or_pos a with ha | ha
  · subst ha
    rw [Nat.gcd_zero_left] at hg
    subst hg
    exact ⟨0, by omega, Int.one_dvd _⟩
  · obtain ⟨z, hz⟩ := some_exists a ha m
    obtain ⟨k, h1, h2⟩ := ext_law hm hz
    rw [hg, Nat.div_one] at h1 h2
    exact ⟨_, h2, ⟨k, by rw [h1, Int.mul_comm]⟩⟩
theorem ext_int {a b x y : Nat} {neg : Bool} (h : ExtOk a b x y neg) : ∃ Y : Int, (Nat.gcd a b : Int) = (x : Int) * (a : Int) + Y * (b : Int) ∧ y = Y.natAbs ∧ neg = decide (Y < 0) := by
  obtain ⟨h1, _, _⟩ := h
  rcases h1 with ⟨h0, h2, h1⟩ | ⟨h0, h1⟩
  · refine ⟨-(y : Int), ?_, by omega, ?_⟩
    · rw [Int.neg_mul, ← Int.natCast_mul, ← Int.natCast_mul]; omega
    · rw [h0, decide_eq_true (by omega)]
  · refine ⟨(y : Int), ?_, by omega, ?_⟩
    · rw [← Int.natCast_mul, ← Int.natCast_mul]; omega
    · rw [h0, decide_eq_false (by omega)]
theorem ext_uniq {a b x y x' y' : Nat} {n n' : Bool} (h : ExtOk a b x y n) (h' : ExtOk a b x' y' n') : x = x' ∧ y = y' ∧ n = n' := by
  obtain ⟨Y, e1, e2, e3⟩ := ext_int h
  obtain ⟨Y', f1, f2, f3⟩ := ext_int h'
  rcases Nat.eq_zero_or_pos b with hb | hb
  · obtain ⟨g1, g2⟩ := h.2.1 hb
    obtain ⟨k1, k2⟩ := h'.2.1 hb
    have : Y = 0 := by omega
    have : Y' = 0 := by omega
    subst Y Y'
    exact ⟨by rw [g2, k2], by omega, by rw [e3, f3]⟩
  · have hx := h.2.2 hb
    have hx' := h'.2.2 hb
    obtain ⟨d, hd⟩ := Nat.gcd_dvd_left a b
    obtain ⟨p, hp⟩ := Nat.gcd_dvd_right a b
    have hg : 0 < Nat.gcd a b := Nat.gcd_pos_of_pos_right a hb
    have hbp : b / Nat.gcd a b = p := by conv => lhs; arg 1; rw [hp]
                                         exact Nat.mul_div_cancel_left p hg
    rw [hbp] at hx hx'
    generalize Nat.gcd a b = g at *
    have ea : (a : Int) = (g : Int) * (d : Int) := by rw [← Int.natCast_mul, ← hd]
    have eb : (b : Int) = (g : Int) * (p : Int) := by rw [← Int.natCast_mul, ← hp]
    have key : ∀ {x : Nat} {Y : Int}, (g : Int) = (x : Int) * (a : Int) + Y * (b : Int) → Cong p d 1 x := fun {x} {Y} h => by
      refine ⟨Y, ?_⟩
      rw [ea, eb, Int.mul_left_comm, Int.mul_left_comm Y, ← Int.mul_add] at h
      have h2 : (g : Int) * 1 = (g : Int) * ((x : Int) * (d : Int) + Y * (p : Int)) := by omega
      have h3 := Int.eq_of_mul_eq_mul_left (by omega) h2
      rw [Int.mul_comm (p : Int)]
      omega
    have hxx := inv_uniq (key e1) (key f1) hx hx'
    subst hxx
    have hY : Y * (b : Int) = Y' * (b : Int) := by omega
    have hY := Int.eq_of_mul_eq_mul_right (by omega) hY
    subst hY
    exact ⟨rfl, by rw [e2, f2], by rw [e3, f3]⟩
set_option maxHeartbeats 2000000 in
theorem inverse5_any {v u : Value} {a m K : Nat} {w : World} (h : Num w v a K) (h' : Num w u m K) (hK1 : 1 ≤ K) (hK : K ≤ 1000000) :
    Calls Tryz.prog 19 #[v, u] w (GInv w a m K) := by
  have H := Lib.hid h
  have H' := Lib.hid h'
  obtain ⟨_, _, _, _, rfl, _⟩ := id h
  obtain ⟨_, _, _, _, rfl, _⟩ := id h'
  clear h h'
  rcases Nat.eq_zero_or_pos m with hm | hm
  · have HM := Lib.hid hm
    have q0 : decide (m = 0) = true := by simpa using hm
    clear hm
    go_enter Tryz.func19, Tryz.ntmps19
    go_wp2_with fail
    refine (zero5_any H'.out (by omega)).mono ?_
    rintro e w1 ⟨rfl, hb1⟩
    go_wp2
    go_ret2
    exact ⟨_, _, _, _, rfl, hb1, Nat.zero_le _, .inr ⟨rfl, rfl, rfl, .inl ⟨HM.out, rfl⟩⟩⟩
  · have HM := Lib.hid hm
    have q0 : decide (m = 0) = false := by simp; omega
    clear hm
    obtain ⟨bb, hbb⟩ : ∃ bb, bb = decide (Nat.gcd a m = 1) := ⟨_, rfl⟩
    have CO : Hid (∀ (w : World) (v u : Value), Num w v a K → Num w u m K → Calls Tryz.prog 63 #[v, u] w (Keeps (.bool bb) w)) := fun w v u h1 h2 => by rw [hbb]; exact coprime5_any (K := K) h1 h2 (by omega) (by omega) (by omega) (by omega)
    have HBB := Lib.hid hbb
    clear hbb
    go_enter Tryz.func19, Tryz.ntmps19
    go_wp2_with fail
    refine (zero5_any H'.out (by omega)).mono ?_
    rintro e w2 ⟨rfl, hb2⟩
    rcases bb with _ | _
    · skip
      go_wp2_with fail
      refine (CO.out _ _ _ (H.out.below hb2) (H'.out.below hb2)).mono ?_
      rintro e w3 ⟨rfl, hb3⟩
      go_wp2
      go_ret2
      exact ⟨_, _, _, _, rfl, (bt hb2 hb3), Nat.zero_le _, .inr ⟨rfl, rfl, rfl, .inr ⟨HM.out, of_decide_eq_false HBB.out.symm, rfl⟩⟩⟩
    · skip
      go_wp2_with fail
      refine (CO.out _ _ _ (H.out.below hb2) (H'.out.below hb2)).mono ?_
      rintro e w4 ⟨rfl, hb4⟩
      have HG : Hid (Nat.gcd a m = 1) := by show _ = _; exact of_decide_eq_true HBB.out.symm
      go_wp2_with fail
      refine (extended5_any ((H.out.below hb2).below hb4) ((H'.out.below hb2).below hb4) hK1 hK).mono ?_
      rintro e w5 ⟨vx, vy, neg_, A_g, n_g, c_g, A_x, n_x, c_x, A_y, n_y, c_y, hExt, rfl, ⟨o_g, o_x, o_y⟩, hb5, l_g, l_x, l_y⟩
      have HE := Lib.hid hExt
      clear hExt
      have e0 := ((At.boxc (i := 0) (v := .bool false) (t := 40) (b := w5.heap.size) w5 #[.bool false, .slice A_x n_x c_x] rfl (by simp)).below ((Below.refl _ _).alloc (Nat.le_refl _) (.cells #[.bool neg_, .slice A_y n_y c_y] 40))).1
      have e1 := ((At.boxc (i := 1) (v := .slice A_x n_x c_x) (t := 40) (b := w5.heap.size) w5 #[.bool false, .slice A_x n_x c_x] rfl (by simp)).below ((Below.refl _ _).alloc (Nat.le_refl _) (.cells #[.bool neg_, .slice A_y n_y c_y] 40))).1
      go_wp2_with fail
      refine (mod5_any (s := false) (((o_x.num l_x).below ((Below.refl _ _).alloc (Nat.le_refl _) (.cells #[.bool false, .slice A_x n_x c_x] 40))).below ((Below.refl _ _).alloc (Nat.le_refl _) (.cells #[.bool neg_, .slice A_y n_y c_y] 40))) (((((H'.out.below hb2).below hb4).below hb5).below ((Below.refl _ _).alloc (Nat.le_refl _) (.cells #[.bool false, .slice A_x n_x c_x] 40))).below ((Below.refl _ _).alloc (Nat.le_refl _) (.cells #[.bool neg_, .slice A_y n_y c_y] 40))) rfl HM.out (by omega) (by omega) (by omega) (by omega)).mono ?_
      rintro e w6 ⟨A_r, n_r, c_r, rfl, o_r, hb6, l_r⟩
      have HR := Lib.hid (o_r.mono (bt (bt (bt (bt hb2 hb4) hb5) ((Below.refl _ _).alloc (Nat.le_refl _) (.cells #[.bool false, .slice A_x n_x c_x] 40))) ((Below.refl _ _).alloc (Nat.le_refl _) (.cells #[.bool neg_, .slice A_y n_y c_y] 40))).size)
      have HBF := Lib.hid (bt (bt (bt (bt (bt hb2 hb4) hb5) ((Below.refl _ _).alloc (Nat.le_refl _) (.cells #[.bool false, .slice A_x n_x c_x] 40))) ((Below.refl _ _).alloc (Nat.le_refl _) (.cells #[.bool neg_, .slice A_y n_y c_y] 40))) hb6)
      clear e0 e1 o_g o_x o_y o_r
      go_wp2
      go_ret2
      have hlt : vx < m := by
        have := HE.out.2.2 HM.out
        rwa [HG.out, Nat.div_one] at this
      have er : (sg false vx % (m : Int)).toNat = vx := by
        rw [sg_false, mod_pos]; exact Nat.mod_eq_of_lt hlt
      have ho := HR.out
      rw [er] at ho
      exact ⟨_, _, _, _, rfl, HBF.out, l_r, .inl ⟨HM.out, HG.out, rfl, vx, hlt, ext_cong HE.out HG.out, ho⟩⟩
/-- a slice to read, an error's number -/
def GIx (w : World) (xs : List Nat) (er : Int) (L : Nat) (e : Ending) (w' : World) : Prop :=
  ∃ A n c, e = .returned (.tuple #[.slice A n c, .int .i64 er]) ∧ Below w.heap.size w w' ∧ n ≤ L ∧ Rd .u64 w' A n c xs
theorem inv_both (a m : Nat) : ∃ (xs : List Nat) (er : Int),
    (∀ (w : World) (v u : Value), Num w v a 30 → Num w u m 30 → Calls Tryz.prog 18 #[v, u] w (GIx w xs er 30)) ∧
    (∀ (w : World) (v u : Value), Num w v a 30 → Num w u m 30 → Calls Tryz.prog 19 #[v, u] w (GIx w xs er 30)) := by
  have key : ∃ (xs : List Nat) (er : Int), ∀ {w w' : World} {e : Ending}, GInv w a m 30 e w' → GIx w xs er 30 e w' := by
    by_cases hok : 0 < m ∧ Nat.gcd a m = 1
    · obtain ⟨x, hx, hc⟩ := inv_exists hok.1 hok.2
      refine ⟨dg W x, 0, fun {w w' e} ⟨A, n, c, er, he, hb, hl, hh⟩ => ?_⟩
      rcases hh.out with ⟨_, _, rfl, x', hx', hc', ho⟩ | ⟨_, _, _, h3 | h3⟩
      · obtain rfl := inv_uniq hc hc' hx hx'
        exact ⟨A, n, c, he, hb, hl, ho.rd⟩
      · omega
      · exact absurd hok.2 h3.2.1
    · by_cases hm : m = 0
      · refine ⟨[], 1, fun {w w' e} ⟨A, n, c, er, he, hb, hl, hh⟩ => ?_⟩
        rcases hh.out with ⟨h1, h2, _⟩ | ⟨rfl, rfl, rfl, h3 | h3⟩
        · exact absurd ⟨h1, h2⟩ hok
        · obtain ⟨_, rfl⟩ := h3
          exact ⟨_, _, _, he, hb, hl, rd_none⟩
        · omega
      · refine ⟨[], 4, fun {w w' e} ⟨A, n, c, er, he, hb, hl, hh⟩ => ?_⟩
        rcases hh.out with ⟨h1, h2, _⟩ | ⟨rfl, rfl, rfl, h3 | h3⟩
        · exact absurd ⟨h1, h2⟩ hok
        · omega
        · obtain ⟨_, _, rfl⟩ := h3
          exact ⟨_, _, _, he, hb, hl, rd_none⟩
  obtain ⟨xs, er, key⟩ := key
  exact ⟨xs, er, fun w v u h1 h2 => (ginverse_any h1 h2 (by omega) (by omega)).mono fun e w' h => key h, fun w v u h1 h2 => (inverse5_any h1 h2 (by omega) (by omega)).mono fun e w' h => key h⟩
end Go.Proofs.YtbamhgpadfojfaaGreat
namespace Go.Proofs.YtbamhgpadfojfaaGreat
open Go.RowKit
set_option linter.unusedVariables false

/-- after i rounds: x is the one answer below l, the moduli's lcm -/
def CrtI (rs ms : List Nat) (i x l : Nat) : Prop :=
  x < l ∧ l = llcm (ms.take i) ∧ (∀ j, j < i → nth ms j ∣ l ∧ x % nth ms j = nth rs j % nth ms j) ∧ ∀ X, (∀ j, j < i → X % nth ms j = nth rs j % nth ms j) → X % l = x
theorem CrtI.start (rs ms : List Nat) : CrtI rs ms 0 0 1 := ⟨by omega, rfl, fun j h => by omega, fun X _ => Nat.mod_one X⟩
theorem CrtI.uniq {rs ms : List Nat} {i x l x' l' : Nat} (h : CrtI rs ms i x l) (h' : CrtI rs ms i x' l') : x = x' ∧ l = l' := by
  have hl : l = l' := by rw [h.2.1, h'.2.1]
  subst hl
  refine ⟨?_, rfl⟩
  have := h'.2.2.2 x fun j hj => (h.2.2.1 j hj).2
  rwa [Nat.mod_eq_of_lt h.1] at this
theorem mod_of_sub {a b m : Nat} (h : (m : Int) ∣ (a : Int) - (b : Int)) : a % m = b % m := by
  have h3 := Int.emod_eq_emod_iff_emod_sub_eq_zero.2 (Int.emod_eq_zero_of_dvd h)
  rw [← Int.natCast_emod, ← Int.natCast_emod] at h3
  exact Int.ofNat.inj h3
theorem sub_of_mod {a b m : Nat} (h : a % m = b % m) : (m : Int) ∣ (a : Int) - (b : Int) := by
  refine Int.dvd_of_emod_eq_zero (Int.emod_eq_emod_iff_emod_sub_eq_zero.1 ?_)
  rw [← Int.natCast_emod, ← Int.natCast_emod, h]
theorem CrtI.step {rs ms : List Nat} {i x l T : Nat} (h : CrtI rs ms i x l) (hi : i < ms.length) (hn : 0 < nth ms i) (hT : (x + l * T) % nth ms i = nth rs i % nth ms i) :
    CrtI rs ms (i + 1) ((x + l * T) % Nat.lcm l (nth ms i)) (Nat.lcm l (nth ms i)) := by
  obtain ⟨h1, h2, h3, h4⟩ := h
  have hl0 : 0 < Nat.lcm l (nth ms i) := Nat.lcm_pos (by omega) hn
  have d1 : l ∣ Nat.lcm l (nth ms i) := Nat.dvd_lcm_left _ _
  have d2 : nth ms i ∣ Nat.lcm l (nth ms i) := Nat.dvd_lcm_right _ _
  refine ⟨Nat.mod_lt _ hl0, ?_, fun j hj => ?_, fun X hX => ?_⟩
  · rw [llcm_take hi, ← h2]
  · rcases (show j < i ∨ j = i by omega) with hj | rfl
    · obtain ⟨e1, e2⟩ := h3 j hj
      refine ⟨Nat.dvd_trans e1 d1, ?_⟩
      rw [Nat.mod_mod_of_dvd _ (Nat.dvd_trans e1 d1), Nat.add_mod, Nat.mod_eq_zero_of_dvd (Nat.dvd_trans e1 (Nat.dvd_mul_right l T)), Nat.add_zero, Nat.mod_mod, e2]
    · exact ⟨d2, by rw [Nat.mod_mod_of_dvd _ d2, hT]⟩
  · have e1 := h4 X fun j hj => hX j (by omega)
    have e2 := hX i (by omega)
    have f1 : (l : Int) ∣ (X : Int) - ((x + l * T : Nat) : Int) := sub_of_mod (by rw [e1, Nat.add_mul_mod_self_left, Nat.mod_eq_of_lt h1])
    have f2 : (nth ms i : Int) ∣ (X : Int) - ((x + l * T : Nat) : Int) := sub_of_mod (by rw [e2, hT])
    refine mod_of_sub ?_
    have g1 := Int.natAbs_dvd_natAbs.2 f1
    have g2 := Int.natAbs_dvd_natAbs.2 f2
    rw [Int.natAbs_natCast] at g1 g2
    exact Int.natAbs_dvd_natAbs.1 (by rw [Int.natAbs_natCast]; exact Nat.lcm_dvd g1 g2)
/-- what is still lacking modulo n -/
def crtD (r x n : Nat) : Nat := (((r : Int) - (x : Int)) % (n : Int)).toNat
theorem crtD_spec {r x n : Nat} (hn : 0 < n) : (n : Int) ∣ (r : Int) - (x : Int) - (crtD r x n : Int) := by
  have h0 : 0 ≤ ((r : Int) - (x : Int)) % (n : Int) := Int.emod_nonneg _ (by omega)
  rw [crtD, Int.toNat_of_nonneg h0]
  exact ⟨((r : Int) - (x : Int)) / (n : Int), by have := Int.mul_ediv_add_emod ((r : Int) - (x : Int)) (n : Int); omega⟩
theorem crtD_lt {r x n : Nat} (hn : 0 < n) : crtD r x n < n := by
  have h0 : 0 ≤ ((r : Int) - (x : Int)) % (n : Int) := Int.emod_nonneg _ (by omega)
  have h1 : ((r : Int) - (x : Int)) % (n : Int) < (n : Int) := Int.emod_lt_of_pos _ (by omega)
  rw [crtD]; omega
theorem crtD_nat {r x n : Nat} (hn : 0 < n) : (r % n + (n - x % n)) % n = crtD r x n := by
  have hx := Nat.mod_lt x hn
  have h1 : (n : Int) ∣ ((r % n + (n - x % n) : Nat) : Int) - (crtD r x n : Int) := by
    have e : ((r % n + (n - x % n) : Nat) : Int) - (crtD r x n : Int) = ((r : Int) - (x : Int) - (crtD r x n : Int)) + (n : Int) + (((r % n : Nat) : Int) - (r : Int)) - (((x % n : Nat) : Int) - (x : Int)) := by omega
    rw [e]
    exact Int.dvd_sub (Int.dvd_add (Int.dvd_add (crtD_spec hn) (Int.dvd_refl _)) (cong_mod n r)) (cong_mod n x)
  have := mod_of_sub h1
  rwa [Nat.mod_eq_of_lt (crtD_lt hn)] at this
theorem crt_T {r x l n s T : Nat} (hn : 0 < n) (hd : crtD r x n % Nat.gcd l n = 0) (hs : Cong n l (Nat.gcd l n) s) (hT : ((n / Nat.gcd l n : Nat) : Int) ∣ (T : Int) - ((crtD r x n / Nat.gcd l n : Nat) : Int) * (s : Int)) :
    (x + l * T) % n = r % n := by
  have hD := crtD_spec (r := r) (x := x) hn
  generalize crtD r x n = d at *
  have hg : 0 < Nat.gcd l n := Nat.gcd_pos_of_pos_right l hn
  obtain ⟨l', hl⟩ := Nat.gcd_dvd_left l n
  obtain ⟨p, hp⟩ := Nat.gcd_dvd_right l n
  have hnp : n / Nat.gcd l n = p := by conv => lhs; arg 1; rw [hp]
                                       exact Nat.mul_div_cancel_left p hg
  rw [hnp] at hT
  have hdk : d = Nat.gcd l n * (d / Nat.gcd l n) := by have := Nat.div_add_mod d (Nat.gcd l n); omega
  generalize d / Nat.gcd l n = k at *
  generalize Nat.gcd l n = g at *
  have el : (l : Int) = (g : Int) * (l' : Int) := by rw [← Int.natCast_mul, ← hl]
  have en : (n : Int) = (g : Int) * (p : Int) := by rw [← Int.natCast_mul, ← hp]
  have ed : (d : Int) = (g : Int) * (k : Int) := by rw [← Int.natCast_mul, ← hdk]
  obtain ⟨c, hc⟩ := hT
  refine mod_of_sub ?_
  have f1 : (n : Int) ∣ (l : Int) * ((T : Int) - (k : Int) * (s : Int)) := ⟨(l' : Int) * c, by
    rw [hc, el, en, Int.mul_assoc, Int.mul_assoc, Int.mul_left_comm (l' : Int)]⟩
  have f2 : (n : Int) ∣ (k : Int) * ((g : Int) - (s : Int) * (l : Int)) := Int.dvd_mul_of_dvd_right hs
  have e : ((x + l * T : Nat) : Int) - (r : Int) = (l : Int) * ((T : Int) - (k : Int) * (s : Int)) - (k : Int) * ((g : Int) - (s : Int) * (l : Int)) - ((r : Int) - (x : Int) - (d : Int)) := by
    rw [Int.natCast_add, Int.natCast_mul, Int.mul_sub, Int.mul_sub, ed, Int.mul_comm (k : Int) (g : Int), Int.mul_left_comm (l : Int), Int.mul_comm (l : Int) (s : Int)]
    omega
  rw [e]
  exact Int.dvd_sub (Int.dvd_sub f1 f2) hD
theorem CrtI.fail {rs ms : List Nat} {i x l : Nat} (h : CrtI rs ms i x l) (hn : 0 < nth ms i) (hd : crtD (nth rs i) x (nth ms i) % Nat.gcd l (nth ms i) ≠ 0) :
    ¬ ∃ X, ∀ j, j < i + 1 → X % nth ms j = nth rs j % nth ms j := by
  rintro ⟨X, hX⟩
  have e1 := h.2.2.2 X fun j hj => hX j (by omega)
  have e2 := hX i (by omega)
  apply hd
  have f1 : (l : Int) ∣ (X : Int) - (x : Int) := sub_of_mod (by rw [e1, Nat.mod_eq_of_lt h.1])
  have f2 : (nth ms i : Int) ∣ (X : Int) - (nth rs i : Int) := sub_of_mod e2
  have f3 := crtD_spec (r := nth rs i) (x := x) hn
  have g1 : (Nat.gcd l (nth ms i) : Int) ∣ (l : Int) := Int.natCast_dvd_natCast.2 (Nat.gcd_dvd_left _ _)
  have g2 : (Nat.gcd l (nth ms i) : Int) ∣ (nth ms i : Int) := Int.natCast_dvd_natCast.2 (Nat.gcd_dvd_right _ _)
  have g3 : (Nat.gcd l (nth ms i) : Int) ∣ (crtD (nth rs i) x (nth ms i) : Int) := by
    have e : (crtD (nth rs i) x (nth ms i) : Int) = ((X : Int) - (x : Int)) - ((X : Int) - (nth rs i : Int)) - ((nth rs i : Int) - (x : Int) - (crtD (nth rs i) x (nth ms i) : Int)) := by omega
    rw [e]
    exact Int.dvd_sub (Int.dvd_sub (Int.dvd_trans g1 f1) (Int.dvd_trans g2 f2)) (Int.dvd_trans g2 f3)
  exact Nat.mod_eq_zero_of_dvd (Int.natCast_dvd_natCast.1 g3)
theorem CrtI.small {rs ms : List Nat} {i x l t : Nat} (h : CrtI rs ms i x l) (ht : t < nth ms i / Nat.gcd l (nth ms i)) : x + l * t < Nat.lcm l (nth ms i) := by
  have e : Nat.lcm l (nth ms i) = l * (nth ms i / Nat.gcd l (nth ms i)) := by
    rw [Nat.lcm, Nat.mul_div_assoc _ (Nat.gcd_dvd_right _ _)]
  rw [e]
  have h2 : l * (t + 1) ≤ l * (nth ms i / Nat.gcd l (nth ms i)) := Nat.mul_le_mul_left _ ht
  rw [Nat.mul_add] at h2
  have := h.1
  omega
theorem CrtI.lt_W {rs ms : List Nat} {i x l : Nat} (h : CrtI rs ms i x l) (hm : ∀ j, j < i → nth ms j < W ^ 30) (hi : i ≤ ms.length) : l < W ^ (30 * i + 1) := by
  rw [h.2.1]
  clear h
  induction i with
  | zero => simpa [llcm] using W_gt
  | succ i ih =>
    rw [llcm_take (by omega)]
    have h1 := ih (fun j hj => hm j (by omega)) (by omega)
    have h2 := hm i (by omega)
    have h3 : Nat.lcm (llcm (ms.take i)) (nth ms i) ≤ llcm (ms.take i) * nth ms i := Nat.div_le_self _ _
    have h4 : llcm (ms.take i) * nth ms i ≤ llcm (ms.take i) * W ^ 30 := Nat.mul_le_mul_left _ (Nat.le_of_lt h2)
    have h5 : llcm (ms.take i) * W ^ 30 < W ^ (30 * i + 1) * W ^ 30 := Nat.mul_lt_mul_of_pos_right h1 (Nat.pow_pos W_pos)
    rw [← Nat.pow_add] at h5
    have e : 30 * (i + 1) + 1 = 30 * i + 1 + 30 := by omega
    rw [e]
    omega
end Go.Proofs.YtbamhgpadfojfaaGreat
namespace Go.Proofs.YtbamhgpadfojfaaGreat
open Go.RowKit
set_option linter.unusedVariables false

/-- what both Crt's give: no moduli of 0, an answer, or none -/
def CrS (w w' : World) (rs ms : List Nat) (n : Nat) (A1 : Option Addr) (n1 c1 : Nat) (A2 : Option Addr) (n2 c2 : Nat) (er : Int) : Prop :=
  ((A1 = none ∧ n1 = 0 ∧ c1 = 0) ∧ (A2 = none ∧ n2 = 0 ∧ c2 = 0) ∧ (er = 1 ∧ (∃ i, i < n ∧ nth ms i = 0) ∨ er = 4 ∧ (∀ i, i < n → 0 < nth ms i) ∧ ¬ ∃ X, ∀ j, j < n → X % nth ms j = nth rs j % nth ms j)) ∨
  (er = 0 ∧ (∀ i, i < n → 0 < nth ms i) ∧ ∃ x l, CrtI rs ms n x l ∧ Own .u64 49 w.heap.size w' A1 n1 c1 (dg W x) ∧ Own .u64 49 w.heap.size w' A2 n2 c2 (dg W l))
def GCr (w : World) (rs ms : List Nat) (n L : Nat) (e : Ending) (w' : World) : Prop :=
  ∃ A1 n1 c1 A2 n2 c2 er, e = .returned (.tuple #[.slice A1 n1 c1, .slice A2 n2 c2, .int .i64 er]) ∧ Below w.heap.size w w' ∧ n1 ≤ L ∧ n2 ≤ L ∧ Hid (CrS w w' rs ms n A1 n1 c1 A2 n2 c2 er)
theorem CrtI.nofail {rs ms : List Nat} {i n : Nat} (h : ¬ ∃ X, ∀ j, j < i + 1 → X % nth ms j = nth rs j % nth ms j) (hi : i < n) : ¬ ∃ X, ∀ j, j < n → X % nth ms j = nth rs j % nth ms j :=
  fun ⟨X, hX⟩ => h ⟨X, fun j hj => hX j (by omega)⟩
theorem crt_prog {rs ms : List Nat} {i x l s : Nat} (h : CrtI rs ms i x l) (hi : i < ms.length) (hn : 0 < nth ms i) (hd : crtD (nth rs i) x (nth ms i) % Nat.gcd l (nth ms i) = 0) (hs : Cong (nth ms i) l (Nat.gcd l (nth ms i)) s) (hp : 0 < nth ms i / Nat.gcd l (nth ms i)) :
    CrtI rs ms (i + 1) (x + l * (crtD (nth rs i) x (nth ms i) / Nat.gcd l (nth ms i) * s % (nth ms i / Nat.gcd l (nth ms i)))) (Nat.lcm l (nth ms i)) := by
  have hT := crt_T (r := nth rs i) (x := x) (T := crtD (nth rs i) x (nth ms i) / Nat.gcd l (nth ms i) * s % (nth ms i / Nat.gcd l (nth ms i))) hn hd hs (by rw [← Int.natCast_mul]; exact cong_mod _ _)
  have h1 := h.step hi hn hT
  rwa [Nat.mod_eq_of_lt (h.small (Nat.mod_lt _ hp))] at h1
theorem CrtI.lens {rs ms : List Nat} {i x l M : Nat} (h : CrtI rs ms i x l) (hm : ∀ j, j < i → nth ms j < W ^ 30) (hi : i ≤ ms.length) (h20 : 30 * i + 1 ≤ M) : x < W ^ M ∧ l < W ^ M := by
  have h1 := h.lt_W hm hi
  have h2 : W ^ (30 * i + 1) ≤ W ^ M := Nat.pow_le_pow_right W_pos h20
  have := h.1
  exact ⟨by omega, by omega⟩
set_option maxHeartbeats 8000000 in
set_option maxRecDepth 100000 in
theorem gcrt_any {A A' : Option Addr} {n c d : Nat} {rs ms ls ks : List Nat} {w : World} (h : Nums w A n c rs ls) (h' : Nums w A' n d ms ks) (hl : ∀ i, nth ls i ≤ 30) (hk : ∀ i, nth ks i ≤ 30) (hn : n ≤ 20) :
    Calls Tryz.prog 20 #[.slice A n c, .slice A' n d] w (GCr w rs ms n 601) := by
  have H := Lib.hid h
  have H' := Lib.hid h'
  have HL := Lib.hid hl
  have HK := Lib.hid hk
  have HLEN : Hid (ms.length = n) := h'.1.1
  have HM30 : Hid (∀ j, j < n → nth ms j < W ^ 30) := fun j hj => by
    obtain ⟨_, _, v, _, _, _, hv⟩ := h'.at hj
    exact Nat.lt_of_lt_of_le hv.lt (Nat.pow_le_pow_right W_pos (hk j))
  have h1W : Hid (1 < W) := W_gt
  clear h h' hl hk
  go_enter Tryz.func20, Tryz.ntmps20
  go_wp2
  go_loopw [24] (fun iv wr => ∃ i : Nat, Hid (Below w.heap.size w wr ∧ ∀ j, j < i → 0 < nth ms j) ∧ i ≤ n ∧ iv = .int .i64 (i : Int)) (fun iv _ => n - (intOf iv).toNat)
  case atStart => exact ⟨0, ⟨Below.refl _ _, fun j hj => by omega⟩, Nat.zero_le _, rfl⟩
  case round =>
    obtain ⟨i, hI, hi, rfl⟩ := hrel
    obtain ⟨wo, rfl⟩ : ∃ wo : World, wo = wr := ⟨_, rfl⟩
    by_cases hlt : i < n
    · have i0 : (0 : Int) ≤ (i : Int) := by omega
      have i1 : (i : Int) < (n : Int) := by omega
      obtain ⟨b, off, v, ea, hb, hca, hv⟩ := (H'.out.below hI.out.1).at hlt
      have HV := Lib.hid (hv.mono (HK.out i))
      have HC := Lib.hid (show At wo ⟨b, off + i, none⟩ v from ⟨hca, hb⟩)
      have HEA := Lib.hid ea
      subst ea
      obtain ⟨_, _, _, _, rfl, _⟩ := id hv
      clear hca hb hv
      have hc1 := HC.out.1
      rcases Nat.eq_zero_or_pos (nth ms i) with hz | hz
      · have HZ := Lib.hid hz
        clear hz
        go_wp2_with fail
        refine (isZero_yes HV.out HZ.out (by omega)).mono ?_
        rintro e w1 ⟨rfl, hb1⟩
        have HBF := Lib.hid (bt hI.out.1 hb1)
        go_wp2
        go_ret3
        exact ⟨_, _, _, _, _, _, _, rfl, HBF.out, Nat.zero_le _, Nat.zero_le _, .inl ⟨⟨rfl, rfl, rfl⟩, ⟨rfl, rfl, rfl⟩, .inl ⟨rfl, i, hlt, HZ.out⟩⟩⟩
      · have HZ := Lib.hid hz
        clear hz
        go_wp2_with fail
        refine (isZero_no HV.out HZ.out (by omega)).mono ?_
        rintro e w2 ⟨rfl, hb2⟩
        have HNX : Hid (Below w.heap.size w w2 ∧ ∀ j, j < i + 1 → 0 < nth ms j) := ⟨bt hI.out.1 hb2, fun j hj => by
          rcases (show j < i ∨ j = i by omega) with h1 | h1
          · exact hI.out.2 j h1
          · rw [h1]; exact HZ.out⟩
        go_wp2
        go_roundw
        case rel => exact ⟨i + 1, HNX, hlt, by go_num⟩
        case measure => simp [intOf]; omega
    · obtain rfl : n = i := by omega
      have HPOS := Lib.hid hI.out.2
      go_wp2_with fail
      refine (nof_any (x := 1) (x' := 1) rfl h1W.out).mono ?_
      rintro e w3 ⟨A_o, n_o, c_o, rfl, o_o, hb3, l_o⟩
      have HS : Hid (Own .u64 49 w.heap.size w3 A_o n_o c_o (dg W 1) ∧ Below w.heap.size w w3) := ⟨o_o.mono hI.out.1.size, bt hI.out.1 hb3⟩
      clear o_o hlt hi
      go_wp2
      go_loopw [9, 10, 34] (fun xv lv iv wr => ∃ (k x l : Nat) (Ax : Option Addr) (nx cx : Nat) (Al : Option Addr) (nl cl : Nat), Hid (CrtI rs ms k x l ∧ Own .u64 49 w.heap.size wr Ax nx cx (dg W x) ∧ Own .u64 49 w.heap.size wr Al nl cl (dg W l) ∧ Below w.heap.size w wr) ∧ k ≤ n ∧ nx ≤ 601 ∧ nl ≤ 601 ∧ xv = .slice Ax nx cx ∧ lv = .slice Al nl cl ∧ iv = .int .i64 (k : Int)) (fun _ _ iv _ => n - (intOf iv).toNat)
      case atStart => exact ⟨0, 0, 1, _, _, _, _, _, _, ⟨CrtI.start rs ms, Own.nildg, HS.out.1, HS.out.2⟩, Nat.zero_le _, Nat.zero_le _, by omega, rfl, rfl, rfl⟩
      case round =>
        clear hI HS
        obtain ⟨i, x, l, A_x, n_x, c_x, A_l, n_l, c_l, hI, hi, hnx, hnl, rfl, rfl, rfl⟩ := hrel
        obtain ⟨wo, rfl⟩ : ∃ wo : World, wo = wr := ⟨_, rfl⟩
        by_cases hlt : i < n
        · have i0 : (0 : Int) ≤ (i : Int) := by omega
          have i1 : (i : Int) < (n : Int) := by omega
          have HP : Hid (0 < nth ms i) := HPOS.out i hlt
          obtain ⟨b, off, v, ea, hb, hca, hv⟩ := (H'.out.below hI.out.2.2.2).at hlt
          have HV := Lib.hid (hv.mono (HK.out i))
          have HC := Lib.hid (show At wo ⟨b, off + i, none⟩ v from ⟨hca, hb⟩)
          have HEA := Lib.hid ea
          subst ea
          obtain ⟨_, _, _, _, rfl, _⟩ := id hv
          clear hca hb hv
          obtain ⟨b2, off2, v2, ea2, hb2', hca2, hv2⟩ := (H.out.below hI.out.2.2.2).at hlt
          have HV2 := Lib.hid (hv2.mono (HL.out i))
          have HC2 := Lib.hid (show At wo ⟨b2, off2 + i, none⟩ v2 from ⟨hca2, hb2'⟩)
          subst ea2
          obtain ⟨_, _, _, _, rfl, _⟩ := id hv2
          clear hca2 hb2' hv2
          have HG : Hid (0 < Nat.gcd l (nth ms i)) := Nat.gcd_pos_of_pos_right _ HP.out
          have HNG : Hid (0 < nth ms i / Nat.gcd l (nth ms i)) := ext_part HP.out
          have hc1 := HC.out.1
          go_wp2_with fail
          refine (nnorm_any HV.out (by omega)).mono ?_
          rintro e w1 ⟨A_nn, n_nn, c_nn, rfl, o_nn, hb1, l_nn⟩
          clear hc1
          go_wp2_with fail
          refine (factor_any ((hI.out.2.2.1.num hnl).below hb1) (o_nn.num l_nn) HP.out (by omega) (by omega)).mono ?_
          rintro e wf ⟨s, ⟨hs, hcg⟩, A_g, n_g, c_g, A_v, n_v, c_v, rfl, o_g, o_v, hbf, l_g, l_v⟩
          have HCG := Lib.hid hcg
          clear hs hcg
          have hc2 := ((HC2.out.below hb1).below hbf).1
          go_wp2_with fail
          refine (gmod_any ((HV2.out.below hb1).below hbf) ((o_nn.num l_nn).below hbf) HP.out (by omega) (by omega)).mono ?_
          rintro e w2 ⟨A_m1, n_m1, c_m1, rfl, o_m1, hb2, l_m1⟩
          clear hc2
          go_wp2_with fail
          refine (gmod_any ((((hI.out.2.1.num hnx).below hb1).below hbf).below hb2) (((o_nn.num l_nn).below hbf).below hb2) HP.out (by omega) (by omega)).mono ?_
          rintro e w3 ⟨A_m2, n_m2, c_m2, rfl, o_m2, hb3, l_m2⟩
          go_wp2_with fail
          refine (gsub_any ((((o_nn.num l_nn).below hbf).below hb2).below hb3) (o_m2.num l_m2) (Nat.le_of_lt (Nat.mod_lt _ HP.out)) (by omega) (by omega)).mono ?_
          rintro e w4 ⟨A_s1, n_s1, c_s1, rfl, o_s1, hb4, l_s1⟩
          go_wp2_with fail
          refine (nadd_any (((o_m1.num l_m1).below hb3).below hb4) (o_s1.num l_s1) (by omega) (by omega)).mono ?_
          rintro e w5 ⟨A_a1, n_a1, c_a1, rfl, o_a1, hb5, l_a1⟩
          go_wp2_with fail
          refine (gmod_any (o_a1.num l_a1) ((((((o_nn.num l_nn).below hbf).below hb2).below hb3).below hb4).below hb5) HP.out (by omega) (by omega)).mono ?_
          rintro e w6 ⟨A_d, n_d, c_d, rfl, o_d, hb6, l_d⟩
          rw [crtD_nat HP.out] at o_d
          go_wp2_with fail
          refine (gmod_any (o_d.num l_d) ((((((o_g.num l_g).below hb2).below hb3).below hb4).below hb5).below hb6) HG.out (by omega) (by omega)).mono ?_
          rintro e w7 ⟨A_lf, n_lf, c_lf, rfl, o_lf, hb7, l_lf⟩
          rcases Nat.eq_zero_or_pos (crtD (nth rs i) x (nth ms i) % Nat.gcd l (nth ms i)) with h0 | h0
          · have HNS := Lib.hid (crt_prog hI.out.1 (by rw [HLEN.out]; exact hlt) HP.out h0 HCG.out HNG.out)
            have HLE := Lib.hid (HNS.out.lens (M := 601) (fun j hj => HM30.out j (by omega)) (by rw [HLEN.out]; exact hlt) (by omega))
            obtain rfl := len_zero o_lf h0
            clear h0 o_lf
            go_wp2_with fail
            refine (gquo_any ((o_d.num l_d).below hb7) (((((((o_g.num l_g).below hb2).below hb3).below hb4).below hb5).below hb6).below hb7) HG.out (by omega) (by omega)).mono ?_
            rintro e w8 ⟨A_q1, n_q1, c_q1, rfl, o_q1, hb8, l_q1⟩
            go_wp2_with fail
            refine (mul_any (o_q1.num l_q1) ((((((((o_v.num l_v).below hb2).below hb3).below hb4).below hb5).below hb6).below hb7).below hb8) (by omega) (by omega)).mono ?_
            rintro e w9 ⟨A_p1, n_p1, c_p1, rfl, o_p1, hb9, l_p1⟩
            go_wp2_with fail
            refine (gquo_any ((((((((((o_nn.num l_nn).below hbf).below hb2).below hb3).below hb4).below hb5).below hb6).below hb7).below hb8).below hb9) (((((((((o_g.num l_g).below hb2).below hb3).below hb4).below hb5).below hb6).below hb7).below hb8).below hb9) HG.out (by omega) (by omega)).mono ?_
            rintro e w10 ⟨A_q2, n_q2, c_q2, rfl, o_q2, hb10, l_q2⟩
            go_wp2_with fail
            refine (gmod_any ((o_p1.num l_p1).below hb10) (o_q2.num l_q2) HNG.out (by omega) (by omega)).mono ?_
            rintro e w11 ⟨A_t, n_t, c_t, rfl, o_t, hb11, l_t⟩
            go_wp2_with fail
            refine (mul_any (((((((((((((hI.out.2.2.1.num hnl).below hb1).below hbf).below hb2).below hb3).below hb4).below hb5).below hb6).below hb7).below hb8).below hb9).below hb10).below hb11) (o_t.num l_t) (by omega) (by omega)).mono ?_
            rintro e w12 ⟨A_p2, n_p2, c_p2, rfl, o_p2, hb12, l_p2⟩
            go_wp2_with fail
            refine (nadd_any ((((((((((((((hI.out.2.1.num hnx).below hb1).below hbf).below hb2).below hb3).below hb4).below hb5).below hb6).below hb7).below hb8).below hb9).below hb10).below hb11).below hb12) (o_p2.num l_p2) (by omega) (by omega)).mono ?_
            rintro e w13 ⟨A_x2, n_x2, c_x2, rfl, o_x2, hb13, l_x2⟩
            have lx2 : n_x2 ≤ 601 := by rw [← o_x2.len]; exact dgl HLE.out.1
            go_wp2_with fail
            refine (lcm_any (((((((((((((((hI.out.2.2.1.num hnl).below hb1).below hbf).below hb2).below hb3).below hb4).below hb5).below hb6).below hb7).below hb8).below hb9).below hb10).below hb11).below hb12).below hb13) ((((((((((((((o_nn.num l_nn).below hbf).below hb2).below hb3).below hb4).below hb5).below hb6).below hb7).below hb8).below hb9).below hb10).below hb11).below hb12).below hb13) (by omega) (by omega)).mono ?_
            rintro e w14 ⟨A_l2, n_l2, c_l2, rfl, o_l2, hb14, l_l2⟩
            have ll2 : n_l2 ≤ 601 := by rw [← o_l2.len]; exact dgl HLE.out.2
            have HNX := Lib.hid (And.intro HNS.out (And.intro (((o_x2.mono (bt (bt (bt (bt (bt (bt (bt (bt (bt (bt (bt (bt hb1 hbf) hb2) hb3) hb4) hb5) hb6) hb7) hb8) hb9) hb10) hb11) hb12).size).below hb14).mono hI.out.2.2.2.size) (And.intro ((o_l2.mono (bt (bt (bt (bt (bt (bt (bt (bt (bt (bt (bt (bt (bt hb1 hbf) hb2) hb3) hb4) hb5) hb6) hb7) hb8) hb9) hb10) hb11) hb12) hb13).size).mono hI.out.2.2.2.size) (bt hI.out.2.2.2 (bt (bt (bt (bt (bt (bt (bt (bt (bt (bt (bt (bt (bt (bt hb1 hbf) hb2) hb3) hb4) hb5) hb6) hb7) hb8) hb9) hb10) hb11) hb12) hb13) hb14)))))
            clear o_nn o_g o_v o_m1 o_m2 o_s1 o_a1 o_d o_q1 o_p1 o_q2 o_t o_p2 o_x2 o_l2 HNS HLE
            go_wp2
            go_roundw
            case rel => exact ⟨i + 1, _, _, _, _, _, _, _, _, HNX, hlt, lx2, ll2, rfl, rfl, by go_num⟩
            case measure => simp [intOf]; omega
          · have HF := Lib.hid (CrtI.nofail (hI.out.1.fail HP.out (by omega)) hlt)
            have z1 := len_pos o_lf h0
            have z2 : ((n_lf : Int) == 0) = false := by rw [beq_eq_false_iff_ne]; omega
            have HBF := Lib.hid (bt hI.out.2.2.2 (bt (bt (bt (bt (bt (bt (bt hb1 hbf) hb2) hb3) hb4) hb5) hb6) hb7))
            clear h0 o_nn o_g o_v o_m1 o_m2 o_s1 o_a1 o_d o_lf
            go_wp2
            go_ret3
            exact ⟨_, _, _, _, _, _, _, rfl, HBF.out, Nat.zero_le _, Nat.zero_le _, .inl ⟨⟨rfl, rfl, rfl⟩, ⟨rfl, rfl, rfl⟩, .inr ⟨rfl, HPOS.out, HF.out⟩⟩⟩
        · obtain rfl : n = i := by omega
          go_wp2
          go_ret3
          exact ⟨_, _, _, _, _, _, _, rfl, hI.out.2.2.2, hnx, hnl, .inr ⟨rfl, HPOS.out, _, _, hI.out.1, hI.out.2.1, hI.out.2.2.1⟩⟩
end Go.Proofs.YtbamhgpadfojfaaGreat
namespace Go.Proofs.YtbamhgpadfojfaaGreat
open Go.RowKit
set_option linter.unusedVariables false

theorem ext_congG {a m x y : Nat} {neg : Bool} (h : ExtOk a m x y neg) : Cong m a (Nat.gcd a m) x := by
  obtain ⟨Y, e, _, _⟩ := ext_int h
  exact ⟨Y, by rw [e, Int.mul_comm (m : Int)]; omega⟩
theorem crt_ref {rs ms : List Nat} {i x l s : Nat} (h : CrtI rs ms i x l) (hi : i < ms.length) (hn : 0 < nth ms i) (hd : crtD (nth rs i) x (nth ms i) % Nat.gcd l (nth ms i) = 0) (hs : Cong (nth ms i) l (Nat.gcd l (nth ms i)) s) :
    CrtI rs ms (i + 1) ((sg false x + sg false (((sg false s * sg false (crtD (nth rs i) x (nth ms i) / Nat.gcd l (nth ms i))) % (nth ms i : Int)).toNat) * sg false l) % (Nat.lcm l (nth ms i) : Int)).toNat (Nat.lcm l (nth ms i)) := by
  have e1 : ((sg false s * sg false (crtD (nth rs i) x (nth ms i) / Nat.gcd l (nth ms i))) % (nth ms i : Int)).toNat = s * (crtD (nth rs i) x (nth ms i) / Nat.gcd l (nth ms i)) % nth ms i := by
    rw [sg_false, sg_false, ← Int.natCast_mul, mod_pos]
  rw [e1]
  have hT := crt_T (r := nth rs i) (x := x) (T := s * (crtD (nth rs i) x (nth ms i) / Nat.gcd l (nth ms i)) % nth ms i) hn hd hs (by
    have h1 := cong_mod (nth ms i) (s * (crtD (nth rs i) x (nth ms i) / Nat.gcd l (nth ms i)))
    rw [Int.natCast_mul s, Int.mul_comm (s : Int)] at h1
    refine Int.dvd_trans (Int.natCast_dvd_natCast.2 ?_) h1
    exact ⟨_, (Nat.div_mul_cancel (Nat.gcd_dvd_right l (nth ms i))).symm⟩)
  have h1 := h.step hi hn hT
  generalize s * (crtD (nth rs i) x (nth ms i) / Nat.gcd l (nth ms i)) % nth ms i = T at *
  have e2 : ((sg false x + sg false T * sg false l) % (Nat.lcm l (nth ms i) : Int)).toNat = (x + l * T) % Nat.lcm l (nth ms i) := by
    rw [sg_false, sg_false, sg_false, ← Int.natCast_mul, ← Int.natCast_add, mod_pos, Nat.mul_comm T]
  rw [e2]; exact h1
set_option maxHeartbeats 16000000 in
set_option maxRecDepth 100000 in
theorem crt5_any {A A' : Option Addr} {n c d : Nat} {rs ms ls ks : List Nat} {w : World} (h : Nums w A n c rs ls) (h' : Nums w A' n d ms ks) (hl : ∀ i, nth ls i ≤ 30) (hk : ∀ i, nth ks i ≤ 30) (hn : n ≤ 20) :
    Calls Tryz.prog 22 #[.slice A n c, .slice A' n d] w (GCr w rs ms n 1203) := by
  have H := Lib.hid h
  have H' := Lib.hid h'
  have HL := Lib.hid hl
  have HK := Lib.hid hk
  have HLEN : Hid (ms.length = n) := h'.1.1
  have HM30 : Hid (∀ j, j < n → nth ms j < W ^ 30) := fun j hj => by
    obtain ⟨_, _, v, _, _, _, hv⟩ := h'.at hj
    exact Nat.lt_of_lt_of_le hv.lt (Nat.pow_le_pow_right W_pos (hk j))
  have h1W : Hid (1 < W) := W_gt
  clear h h' hl hk
  go_enter Tryz.func22, Tryz.ntmps22
  go_wp2
  go_loopw [7] (fun iv wr => ∃ i : Nat, Hid (Below w.heap.size w wr ∧ ∀ j, j < i → 0 < nth ms j) ∧ i ≤ n ∧ iv = .int .i64 (i : Int)) (fun iv _ => n - (intOf iv).toNat)
  case atStart => exact ⟨0, ⟨Below.refl _ _, fun j hj => by omega⟩, Nat.zero_le _, rfl⟩
  case round =>
    obtain ⟨i, hI, hi, rfl⟩ := hrel
    obtain ⟨wo, rfl⟩ : ∃ wo : World, wo = wr := ⟨_, rfl⟩
    by_cases hlt : i < n
    · have i0 : (0 : Int) ≤ (i : Int) := by omega
      have i1 : (i : Int) < (n : Int) := by omega
      obtain ⟨b, off, v, ea, hb, hca, hv⟩ := (H'.out.below hI.out.1).at hlt
      have HV := Lib.hid (hv.mono (HK.out i))
      have HC := Lib.hid (show At wo ⟨b, off + i, none⟩ v from ⟨hca, hb⟩)
      have HEA := Lib.hid ea
      subst ea
      obtain ⟨_, _, _, _, rfl, _⟩ := id hv
      clear hca hb hv
      have hc1 := HC.out.1
      rcases Nat.eq_zero_or_pos (nth ms i) with hz | hz
      · have HZ := Lib.hid hz
        have q0 : decide (nth ms i = 0) = true := by simpa using hz
        clear hz
        go_wp2_with fail
        refine (zero5_any HV.out (by omega)).mono ?_
        rintro e w1 ⟨rfl, hb1⟩
        have HBF := Lib.hid (bt hI.out.1 hb1)
        go_wp2
        go_ret3
        exact ⟨_, _, _, _, _, _, _, rfl, HBF.out, Nat.zero_le _, Nat.zero_le _, .inl ⟨⟨rfl, rfl, rfl⟩, ⟨rfl, rfl, rfl⟩, .inl ⟨rfl, i, hlt, HZ.out⟩⟩⟩
      · have HZ := Lib.hid hz
        have q0 : decide (nth ms i = 0) = false := by simp; omega
        clear hz
        go_wp2_with fail
        refine (zero5_any HV.out (by omega)).mono ?_
        rintro e w2 ⟨rfl, hb2⟩
        have HNX : Hid (Below w.heap.size w w2 ∧ ∀ j, j < i + 1 → 0 < nth ms j) := ⟨bt hI.out.1 hb2, fun j hj => by
          rcases (show j < i ∨ j = i by omega) with h1 | h1
          · exact hI.out.2 j h1
          · rw [h1]; exact HZ.out⟩
        go_wp2
        go_roundw
        case rel => exact ⟨i + 1, HNX, hlt, by go_num⟩
        case measure => simp [intOf]; omega
    · obtain rfl : n = i := by omega
      have HPOS := Lib.hid hI.out.2
      go_wp2_with fail
      refine (word5_any (x := 1) (x' := 1) rfl (by omega)).mono ?_
      rintro e w3 ⟨A_o, n_o, c_o, rfl, o_o, hb3, l_o⟩
      have HB2 := Lib.hid hb3
      have HS : Hid (Own .u64 49 w.heap.size w3 A_o n_o c_o (dg W 1) ∧ Below w.heap.size w w3) := ⟨(o_o.mono ((Below.refl _ _).alloc (Nat.le_refl _) _).size).mono hI.out.1.size, bt hI.out.1 (bt ((Below.refl _ _).alloc (Nat.le_refl _) _) hb3)⟩
      clear o_o hlt hi
      go_wp2
      go_loopw [8, 9, 10] (fun xv lv iv wr => ∃ (k x l : Nat) (Ax : Option Addr) (nx cx : Nat) (Al : Option Addr) (nl cl : Nat), Hid (CrtI rs ms k x l ∧ Own .u64 49 w.heap.size wr Ax nx cx (dg W x) ∧ Own .u64 49 w.heap.size wr Al nl cl (dg W l) ∧ Below w.heap.size w wr) ∧ k ≤ n ∧ nx ≤ 601 ∧ nl ≤ 601 ∧ xv = .slice Ax nx cx ∧ lv = .slice Al nl cl ∧ iv = .int .i64 (k : Int)) (fun _ _ iv _ => n - (intOf iv).toNat)
      case atStart =>
        refine ⟨0, 0, 1, _, _, _, _, _, _, ⟨CrtI.start rs ms, ?_, HS.out.1, HS.out.2⟩, Nat.zero_le _, Nat.zero_le _, by omega, rfl, rfl, rfl⟩
        show Own _ _ _ _ _ _ _ (dg W 0)
        rw [dg_zero W_gt]
        exact (Own.lit (k := .u64) (t := 49) _ [] (by simp [maxLen]) hI.out.1.size).below HB2.out
      case round =>
        clear hI HS HB2
        obtain ⟨i, x, l, A_x, n_x, c_x, A_l, n_l, c_l, hI, hi, hnx, hnl, rfl, rfl, rfl⟩ := hrel
        obtain ⟨wo, rfl⟩ : ∃ wo : World, wo = wr := ⟨_, rfl⟩
        by_cases hlt : i < n
        · have i0 : (0 : Int) ≤ (i : Int) := by omega
          have i1 : (i : Int) < (n : Int) := by omega
          have HP : Hid (0 < nth ms i) := HPOS.out i hlt
          obtain ⟨b, off, v, ea, hb, hca, hv⟩ := (H'.out.below hI.out.2.2.2).at hlt
          have HV := Lib.hid (hv.mono (HK.out i))
          have HC := Lib.hid (show At wo ⟨b, off + i, none⟩ v from ⟨hca, hb⟩)
          have HEA := Lib.hid ea
          subst ea
          obtain ⟨_, _, _, _, rfl, _⟩ := id hv
          clear hca hb hv
          obtain ⟨b2, off2, v2, ea2, hb2', hca2, hv2⟩ := (H.out.below hI.out.2.2.2).at hlt
          have HV2 := Lib.hid (hv2.mono (HL.out i))
          have HC2 := Lib.hid (show At wo ⟨b2, off2 + i, none⟩ v2 from ⟨hca2, hb2'⟩)
          subst ea2
          obtain ⟨_, _, _, _, rfl, _⟩ := id hv2
          clear hca2 hb2' hv2
          have HG : Hid (0 < Nat.gcd l (nth ms i)) := Nat.gcd_pos_of_pos_right _ HP.out
          have HLC : Hid (0 < Nat.lcm l (nth ms i)) := Nat.lcm_pos (Nat.lt_of_le_of_lt (Nat.zero_le _) hI.out.1.1) HP.out
          have hc1 := HC.out.1
          go_wp2_with fail
          refine (extended5_any (K := 601) (hI.out.2.2.1.num hnl) (HV.out.mono (by omega)) (by omega) (by omega)).mono ?_
          rintro e w1 ⟨vs, vy, neg_, A_g, n_g, c_g, A_s, n_s, c_s, A_y, n_y, c_y, hExt, rfl, ⟨o_g, o_s, o_y⟩, hb1, l_g, l_s, l_y⟩
          have HE := Lib.hid hExt
          have HCG := Lib.hid (ext_congG hExt)
          clear hExt hc1
          go_wp2_with fail
          have e_cr := (((HC2.out.below hb1).below ((Below.refl _ _).alloc (Nat.le_refl _) (.cells #[.bool false, .slice A_s n_s c_s] 40))).below ((Below.refl _ _).alloc (Nat.le_refl _) (.cells #[.bool neg_, .slice A_y n_y c_y] 40))).1
          have g_cr := At.grow (((HC2.out.below hb1).below ((Below.refl _ _).alloc (Nat.le_refl _) (.cells #[.bool false, .slice A_s n_s c_s] 40))).below ((Below.refl _ _).alloc (Nat.le_refl _) (.cells #[.bool neg_, .slice A_y n_y c_y] 40)))
          have e_ci := (((HC.out.below hb1).below ((Below.refl _ _).alloc (Nat.le_refl _) (.cells #[.bool false, .slice A_s n_s c_s] 40))).below ((Below.refl _ _).alloc (Nat.le_refl _) (.cells #[.bool neg_, .slice A_y n_y c_y] 40))).1
          have g_ci := At.grow (((HC.out.below hb1).below ((Below.refl _ _).alloc (Nat.le_refl _) (.cells #[.bool false, .slice A_s n_s c_s] 40))).below ((Below.refl _ _).alloc (Nat.le_refl _) (.cells #[.bool neg_, .slice A_y n_y c_y] 40)))
          refine wp_region_grow none [(true, 0), (true, 1), (true, 2), (true, 3), (true, 5), (true, 8), (true, 9), (true, 10), (true, 11), (false, 4), (false, 6), (false, 7), (false, 12), (true, 13)] (by kernel_rfl) (by kernel_rfl) ?_
          repeat (refine ord_pas (by rfl) (fun K hK => ?_); go_simp; refine hK _ _ (fun w' hw' => (by first | (go_simp; done) | (go_simp; intro hh; cases hh))) ?_; clear hK K)
          (refine ord_call (by rfl) (fun K hK => ?_); go_simp; refine hK _ _ ?_; clear hK K)
          refine (I5_any (s := false) ((((HV2.out.below hb1).below ((Below.refl _ _).alloc (Nat.le_refl _) (.cells #[.bool false, .slice A_s n_s c_s] 40))).below ((Below.refl _ _).alloc (Nat.le_refl _) (.cells #[.bool neg_, .slice A_y n_y c_y] 40))).below (Below.refl _ _).drew) (by omega)).mono ?_
          rintro e w2 ⟨A_i1, n_i1, c_i1, s_i1, rfl, hs_i1, o_i1, hb2, l_i1⟩
          refine ⟨_, rfl, Grow.of_below hb2, ?_⟩
          (refine ord_norm (fun K hK => ?_); go_simp; refine hK _ ?_; clear hK K)
          (refine ord_call (by rfl) (fun K hK => ?_); go_simp; refine hK _ _ ?_; clear hK K)
          refine (I5_any (s := false) ((((((hI.out.2.1.num hnx).below hb1).below ((Below.refl _ _).alloc (Nat.le_refl _) (.cells #[.bool false, .slice A_s n_s c_s] 40))).below ((Below.refl _ _).alloc (Nat.le_refl _) (.cells #[.bool neg_, .slice A_y n_y c_y] 40))).below (Below.refl _ _).drew).below hb2) (by omega)).mono ?_
          rintro e w3 ⟨A_i2, n_i2, c_i2, s_i2, rfl, hs_i2, o_i2, hb3, l_i2⟩
          refine ⟨_, rfl, Grow.of_below hb3, ?_⟩
          (refine ord_norm (fun K hK => ?_); go_simp; refine hK _ ?_; clear hK K)
          (refine ord_call (by rfl) (fun K hK => ?_); go_simp; refine hK _ _ ?_; clear hK K)
          refine (sub5_any ((o_i1.num l_i1).below hb3) (o_i2.num l_i2) (sg_of hs_i1.out) (sg_of hs_i2.out) (by omega) (by omega) (by omega) (by omega)).mono ?_
          rintro e w4 ⟨A_d1, n_d1, c_d1, s_d1, rfl, hs_d1, o_d1, hb4, l_d1⟩
          refine ⟨_, rfl, Grow.of_below hb4, ?_⟩
          (refine ord_norm (fun K hK => ?_); go_simp; refine hK _ ?_; clear hK K)
          (refine ord_call (by rfl) (fun K hK => ?_); go_simp; refine hK _ _ ?_; clear hK K)
          refine (mod5_any (o_d1.num l_d1) (((((((HV.out.below hb1).below ((Below.refl _ _).alloc (Nat.le_refl _) (.cells #[.bool false, .slice A_s n_s c_s] 40))).below ((Below.refl _ _).alloc (Nat.le_refl _) (.cells #[.bool neg_, .slice A_y n_y c_y] 40))).below (Below.refl _ _).drew).below hb2).below hb3).below hb4) (sg_of hs_d1.out) HP.out (by omega) (by omega) (by omega) (by omega)).mono ?_
          rintro e w5 ⟨A_wt, n_wt, c_wt, rfl, o_wt, hb5, l_wt⟩
          refine ⟨_, rfl, Grow.of_below hb5, ?_⟩
          (refine ord_norm (fun K hK => ?_); go_simp; refine hK _ ?_; clear hK K)
          have hD : ((sg false (nth rs i) - sg false x) % ((nth ms i : Nat) : Int)).toNat = crtD (nth rs i) x (nth ms i) := rfl
          rw [hD] at o_wt
          clear hD
          repeat (refine ord_pas (by rfl) (fun K hK => ?_); go_simp; refine hK _ _ (fun w' hw' => (by first | (go_simp; done) | (go_simp; intro hh; cases hh))) ?_; clear hK K)
          refine ord_nil ?_
          clear g_cr e_cr g_ci e_ci
          clear o_i1 o_i2 o_d1
          rcases Nat.eq_zero_or_pos (crtD (nth rs i) x (nth ms i) % Nat.gcd l (nth ms i)) with h0 | h0
          · have CZ : Hid (∀ (w : World) (v : Value), Num w v (crtD (nth rs i) x (nth ms i) % Nat.gcd l (nth ms i)) (2 * 601 + 1) → Calls Tryz.prog 49 #[v] w (Keeps (.bool true) w)) := fun w v h => by
              have := zero5_any h (by omega)
              rwa [decide_eq_true h0] at this
            have HNS := Lib.hid (crt_ref hI.out.1 (by rw [HLEN.out]; exact hlt) HP.out h0 HCG.out)
            have HLE := Lib.hid (HNS.out.lens (M := 601) (fun j hj => HM30.out j (by omega)) (by rw [HLEN.out]; exact hlt) (by omega))
            clear h0
            go_wp2_with fail
            refine (quo5_any (o_wt.num l_wt) ((((((((o_g.num l_g).below ((Below.refl _ _).alloc (Nat.le_refl _) (.cells #[.bool false, .slice A_s n_s c_s] 40))).below ((Below.refl _ _).alloc (Nat.le_refl _) (.cells #[.bool neg_, .slice A_y n_y c_y] 40))).below (Below.refl _ _).drew).below hb2).below hb3).below hb4).below hb5) HG.out (by omega) (by omega) (by omega) (by omega)).mono ?_
            rintro e w6 ⟨A_k, n_k, c_k, A_lf, n_lf, c_lf, rfl, o_k, o_lf, hb6, l_k, l_lf⟩
            go_wp2_with fail
            refine (CZ.out _ _ (o_lf.num l_lf)).mono ?_
            rintro e w7 ⟨rfl, hb7⟩
            go_wp2_with fail
            have e_x0 := (((((((((At.boxc (i := 0) (v := .bool false) (t := 40) (b := w1.heap.size) w1 #[.bool false, .slice A_s n_s c_s] rfl (by simp)).below ((Below.refl _ _).alloc (Nat.le_refl _) (.cells #[.bool neg_, .slice A_y n_y c_y] 40))).below (Below.refl _ _).drew).below hb2).below hb3).below hb4).below hb5).below hb6).below hb7).1
            have g_x0 := At.grow (((((((((At.boxc (i := 0) (v := .bool false) (t := 40) (b := w1.heap.size) w1 #[.bool false, .slice A_s n_s c_s] rfl (by simp)).below ((Below.refl _ _).alloc (Nat.le_refl _) (.cells #[.bool neg_, .slice A_y n_y c_y] 40))).below (Below.refl _ _).drew).below hb2).below hb3).below hb4).below hb5).below hb6).below hb7)
            have e_x1 := (((((((((At.boxc (i := 1) (v := .slice A_s n_s c_s) (t := 40) (b := w1.heap.size) w1 #[.bool false, .slice A_s n_s c_s] rfl (by simp)).below ((Below.refl _ _).alloc (Nat.le_refl _) (.cells #[.bool neg_, .slice A_y n_y c_y] 40))).below (Below.refl _ _).drew).below hb2).below hb3).below hb4).below hb5).below hb6).below hb7).1
            have g_x1 := At.grow (((((((((At.boxc (i := 1) (v := .slice A_s n_s c_s) (t := 40) (b := w1.heap.size) w1 #[.bool false, .slice A_s n_s c_s] rfl (by simp)).below ((Below.refl _ _).alloc (Nat.le_refl _) (.cells #[.bool neg_, .slice A_y n_y c_y] 40))).below (Below.refl _ _).drew).below hb2).below hb3).below hb4).below hb5).below hb6).below hb7)
            have e_ci := ((((((((((HC.out.below hb1).below ((Below.refl _ _).alloc (Nat.le_refl _) (.cells #[.bool false, .slice A_s n_s c_s] 40))).below ((Below.refl _ _).alloc (Nat.le_refl _) (.cells #[.bool neg_, .slice A_y n_y c_y] 40))).below (Below.refl _ _).drew).below hb2).below hb3).below hb4).below hb5).below hb6).below hb7).1
            have g_ci := At.grow ((((((((((HC.out.below hb1).below ((Below.refl _ _).alloc (Nat.le_refl _) (.cells #[.bool false, .slice A_s n_s c_s] 40))).below ((Below.refl _ _).alloc (Nat.le_refl _) (.cells #[.bool neg_, .slice A_y n_y c_y] 40))).below (Below.refl _ _).drew).below hb2).below hb3).below hb4).below hb5).below hb6).below hb7)
            refine wp_region_grow none [(true, 0), (true, 1), (true, 4), (true, 5), (true, 6), (true, 7), (false, 2), (false, 3), (false, 8), (true, 9)] (by kernel_rfl) (by kernel_rfl) ?_
            repeat (refine ord_pas (by rfl) (fun K hK => ?_); go_simp; refine hK _ _ (fun w' hw' => (by first | (go_simp; done) | (go_simp; intro hh; cases hh))) ?_; clear hK K)
            (refine ord_call (by rfl) (fun K hK => ?_); go_simp; refine hK _ _ ?_; clear hK K)
            refine (I5_any (s := false) (((o_k.num l_k).below hb7).below (Below.refl _ _).drew) (by omega)).mono ?_
            rintro e w8 ⟨A_j1, n_j1, c_j1, s_j1, rfl, hs_j1, o_j1, hb8, l_j1⟩
            refine ⟨_, rfl, Grow.of_below hb8, ?_⟩
            (refine ord_norm (fun K hK => ?_); go_simp; refine hK _ ?_; clear hK K)
            (refine ord_call (by rfl) (fun K hK => ?_); go_simp; refine hK _ _ ?_; clear hK K)
            refine (mul5_any ((((((((((((o_s.num l_s).below ((Below.refl _ _).alloc (Nat.le_refl _) (.cells #[.bool false, .slice A_s n_s c_s] 40))).below ((Below.refl _ _).alloc (Nat.le_refl _) (.cells #[.bool neg_, .slice A_y n_y c_y] 40))).below (Below.refl _ _).drew).below hb2).below hb3).below hb4).below hb5).below hb6).below hb7).below (Below.refl _ _).drew).below hb8) (o_j1.num l_j1) rfl (sg_of hs_j1.out) (by omega) (by omega)).mono ?_
            rintro e w9 ⟨A_m1, n_m1, c_m1, s_m1, rfl, hs_m1, o_m1, hb9, l_m1⟩
            refine ⟨_, rfl, Grow.of_below hb9, ?_⟩
            (refine ord_norm (fun K hK => ?_); go_simp; refine hK _ ?_; clear hK K)
            (refine ord_call (by rfl) (fun K hK => ?_); go_simp; refine hK _ _ ?_; clear hK K)
            refine (mod5_any (o_m1.num l_m1) (((((((((((((HV.out.below hb1).below ((Below.refl _ _).alloc (Nat.le_refl _) (.cells #[.bool false, .slice A_s n_s c_s] 40))).below ((Below.refl _ _).alloc (Nat.le_refl _) (.cells #[.bool neg_, .slice A_y n_y c_y] 40))).below (Below.refl _ _).drew).below hb2).below hb3).below hb4).below hb5).below hb6).below hb7).below (Below.refl _ _).drew).below hb8).below hb9) (sg_of hs_m1.out) HP.out (by omega) (by omega) (by omega) (by omega)).mono ?_
            rintro e w10 ⟨A_t, n_t, c_t, rfl, o_t, hb10, l_t⟩
            refine ⟨_, rfl, Grow.of_below hb10, ?_⟩
            (refine ord_norm (fun K hK => ?_); go_simp; refine hK _ ?_; clear hK K)
            repeat (refine ord_pas (by rfl) (fun K hK => ?_); go_simp; refine hK _ _ (fun w' hw' => (by first | (go_simp; done) | (go_simp; intro hh; cases hh))) ?_; clear hK K)
            refine ord_nil ?_
            clear g_x0 e_x0 g_x1 e_x1 g_ci e_ci
            clear o_j1 o_m1 o_lf
            have hc1 := ((((((((((((((HC.out.below hb1).below ((Below.refl _ _).alloc (Nat.le_refl _) (.cells #[.bool false, .slice A_s n_s c_s] 40))).below ((Below.refl _ _).alloc (Nat.le_refl _) (.cells #[.bool neg_, .slice A_y n_y c_y] 40))).below (Below.refl _ _).drew).below hb2).below hb3).below hb4).below hb5).below hb6).below hb7).below (Below.refl _ _).drew).below hb8).below hb9).below hb10).1
            go_wp2_with fail
            refine (lcm5_any (((((((((((((((hI.out.2.2.1.num hnl).below hb1).below ((Below.refl _ _).alloc (Nat.le_refl _) (.cells #[.bool false, .slice A_s n_s c_s] 40))).below ((Below.refl _ _).alloc (Nat.le_refl _) (.cells #[.bool neg_, .slice A_y n_y c_y] 40))).below (Below.refl _ _).drew).below hb2).below hb3).below hb4).below hb5).below hb6).below hb7).below (Below.refl _ _).drew).below hb8).below hb9).below hb10) ((((((((((((((HV.out.below hb1).below ((Below.refl _ _).alloc (Nat.le_refl _) (.cells #[.bool false, .slice A_s n_s c_s] 40))).below ((Below.refl _ _).alloc (Nat.le_refl _) (.cells #[.bool neg_, .slice A_y n_y c_y] 40))).below (Below.refl _ _).drew).below hb2).below hb3).below hb4).below hb5).below hb6).below hb7).below (Below.refl _ _).drew).below hb8).below hb9).below hb10) (by omega) (by omega) (by omega) (by omega)).mono ?_
            rintro e w11 ⟨A_l2, n_l2, c_l2, rfl, o_l2, hb11, l_l2⟩
            clear hc1
            have ll2 : n_l2 ≤ 601 := by rw [← o_l2.len]; exact dgl HLE.out.2
            go_wp2_with fail
            refine (I5_any (s := false) ((((((((((((((((hI.out.2.1.num hnx).below hb1).below ((Below.refl _ _).alloc (Nat.le_refl _) (.cells #[.bool false, .slice A_s n_s c_s] 40))).below ((Below.refl _ _).alloc (Nat.le_refl _) (.cells #[.bool neg_, .slice A_y n_y c_y] 40))).below (Below.refl _ _).drew).below hb2).below hb3).below hb4).below hb5).below hb6).below hb7).below (Below.refl _ _).drew).below hb8).below hb9).below hb10).below hb11) (by omega)).mono ?_
            rintro e w12 ⟨A_a1, n_a1, c_a1, s_a1, rfl, hs_a1, o_a1, hb12, l_a1⟩
            go_wp2_with fail
            refine (I5_any (s := false) (((o_t.num l_t).below hb11).below hb12) (by omega)).mono ?_
            rintro e w13 ⟨A_a2, n_a2, c_a2, s_a2, rfl, hs_a2, o_a2, hb13, l_a2⟩
            go_wp2_with fail
            refine (I5_any (s := false) ((((((((((((((((((hI.out.2.2.1.num hnl).below hb1).below ((Below.refl _ _).alloc (Nat.le_refl _) (.cells #[.bool false, .slice A_s n_s c_s] 40))).below ((Below.refl _ _).alloc (Nat.le_refl _) (.cells #[.bool neg_, .slice A_y n_y c_y] 40))).below (Below.refl _ _).drew).below hb2).below hb3).below hb4).below hb5).below hb6).below hb7).below (Below.refl _ _).drew).below hb8).below hb9).below hb10).below hb11).below hb12).below hb13) (by omega)).mono ?_
            rintro e w14 ⟨A_a3, n_a3, c_a3, s_a3, rfl, hs_a3, o_a3, hb14, l_a3⟩
            go_wp2_with fail
            refine (mul5_any ((o_a2.num l_a2).below hb14) (o_a3.num l_a3) (sg_of hs_a2.out) (sg_of hs_a3.out) (by omega) (by omega)).mono ?_
            rintro e w15 ⟨A_m2, n_m2, c_m2, s_m2, rfl, hs_m2, o_m2, hb15, l_m2⟩
            go_wp2_with fail
            refine (add5_any ((((o_a1.num l_a1).below hb13).below hb14).below hb15) (o_m2.num l_m2) (sg_of hs_a1.out) (sg_of hs_m2.out) (by omega) (by omega) (by omega) (by omega)).mono ?_
            rintro e w16 ⟨A_a4, n_a4, c_a4, s_a4, rfl, hs_a4, o_a4, hb16, l_a4⟩
            go_wp2_with fail
            refine (mod5_any (o_a4.num l_a4) ((((((o_l2.num l_l2).below hb12).below hb13).below hb14).below hb15).below hb16) (sg_of hs_a4.out) HLC.out (by omega) (by omega) (by omega) (by omega)).mono ?_
            rintro e w17 ⟨A_x2, n_x2, c_x2, rfl, o_x2, hb17, l_x2⟩
            have lx2 : n_x2 ≤ 601 := by rw [← o_x2.len]; exact dgl HLE.out.1
            have HNX := Lib.hid (And.intro HNS.out (And.intro ((o_x2.mono (bt (bt (bt (bt (bt (bt (bt (bt (bt (bt (bt (bt (bt (bt (bt (bt (bt (bt (bt hb1 ((Below.refl _ _).alloc (Nat.le_refl _) (.cells #[.bool false, .slice A_s n_s c_s] 40))) ((Below.refl _ _).alloc (Nat.le_refl _) (.cells #[.bool neg_, .slice A_y n_y c_y] 40))) (Below.refl _ _).drew) hb2) hb3) hb4) hb5) hb6) hb7) (Below.refl _ _).drew) hb8) hb9) hb10) hb11) hb12) hb13) hb14) hb15) hb16).size).mono hI.out.2.2.2.size) (And.intro ((((((((o_l2.mono (bt (bt (bt (bt (bt (bt (bt (bt (bt (bt (bt (bt (bt hb1 ((Below.refl _ _).alloc (Nat.le_refl _) (.cells #[.bool false, .slice A_s n_s c_s] 40))) ((Below.refl _ _).alloc (Nat.le_refl _) (.cells #[.bool neg_, .slice A_y n_y c_y] 40))) (Below.refl _ _).drew) hb2) hb3) hb4) hb5) hb6) hb7) (Below.refl _ _).drew) hb8) hb9) hb10).size).below hb12).below hb13).below hb14).below hb15).below hb16).below hb17).mono hI.out.2.2.2.size) (bt hI.out.2.2.2 (bt (bt (bt (bt (bt (bt (bt (bt (bt (bt (bt (bt (bt (bt (bt (bt (bt (bt (bt (bt hb1 ((Below.refl _ _).alloc (Nat.le_refl _) (.cells #[.bool false, .slice A_s n_s c_s] 40))) ((Below.refl _ _).alloc (Nat.le_refl _) (.cells #[.bool neg_, .slice A_y n_y c_y] 40))) (Below.refl _ _).drew) hb2) hb3) hb4) hb5) hb6) hb7) (Below.refl _ _).drew) hb8) hb9) hb10) hb11) hb12) hb13) hb14) hb15) hb16) hb17)))))
            clear o_g o_s o_y o_wt o_k o_t o_l2 o_a1 o_a2 o_a3 o_m2 o_a4 o_x2 HNS HLE
            go_wp2
            go_roundw
            case rel => exact ⟨i + 1, _, _, _, _, _, _, _, _, HNX, hlt, lx2, ll2, rfl, rfl, by go_num⟩
            case measure => simp [intOf]; omega
          · have CZ : Hid (∀ (w : World) (v : Value), Num w v (crtD (nth rs i) x (nth ms i) % Nat.gcd l (nth ms i)) (2 * 601 + 1) → Calls Tryz.prog 49 #[v] w (Keeps (.bool false) w)) := fun w v h => by
              have := zero5_any h (by omega)
              rwa [decide_eq_false (by omega)] at this
            have HF := Lib.hid (CrtI.nofail (hI.out.1.fail HP.out (by omega)) hlt)
            clear h0
            go_wp2_with fail
            refine (quo5_any (o_wt.num l_wt) ((((((((o_g.num l_g).below ((Below.refl _ _).alloc (Nat.le_refl _) (.cells #[.bool false, .slice A_s n_s c_s] 40))).below ((Below.refl _ _).alloc (Nat.le_refl _) (.cells #[.bool neg_, .slice A_y n_y c_y] 40))).below (Below.refl _ _).drew).below hb2).below hb3).below hb4).below hb5) HG.out (by omega) (by omega) (by omega) (by omega)).mono ?_
            rintro e w18 ⟨A_k, n_k, c_k, A_lf, n_lf, c_lf, rfl, o_k, o_lf, hb18, l_k, l_lf⟩
            go_wp2_with fail
            refine (CZ.out _ _ (o_lf.num l_lf)).mono ?_
            rintro e w19 ⟨rfl, hb19⟩
            have HBF := Lib.hid (bt hI.out.2.2.2 (bt (bt (bt (bt (bt (bt (bt (bt (bt hb1 ((Below.refl _ _).alloc (Nat.le_refl _) (.cells #[.bool false, .slice A_s n_s c_s] 40))) ((Below.refl _ _).alloc (Nat.le_refl _) (.cells #[.bool neg_, .slice A_y n_y c_y] 40))) (Below.refl _ _).drew) hb2) hb3) hb4) hb5) hb18) hb19))
            clear o_g o_s o_y o_wt o_k o_lf
            go_wp2
            go_ret3
            exact ⟨_, _, _, _, _, _, _, rfl, HBF.out, Nat.zero_le _, Nat.zero_le _, .inl ⟨⟨rfl, rfl, rfl⟩, ⟨rfl, rfl, rfl⟩, .inr ⟨rfl, HPOS.out, HF.out⟩⟩⟩
        · obtain rfl : n = i := by omega
          go_wp2
          go_ret3
          exact ⟨_, _, _, _, _, _, _, rfl, hI.out.2.2.2, by omega, by omega, .inr ⟨rfl, HPOS.out, _, _, hI.out.1, hI.out.2.1, hI.out.2.2.1⟩⟩
end Go.Proofs.YtbamhgpadfojfaaGreat
namespace Go.Proofs.YtbamhgpadfojfaaGreat
open Go.RowKit
set_option linter.unusedVariables false

theorem crt_exists {rs ms : List Nat} {X : Nat} : ∀ (i : Nat), i ≤ ms.length → (∀ j, j < i → 0 < nth ms j) → (∀ j, j < i → X % nth ms j = nth rs j % nth ms j) → ∃ x l, CrtI rs ms i x l
  | 0, _, _, _ => ⟨0, 1, CrtI.start rs ms⟩
  | i + 1, hi, hp, hX => by
    obtain ⟨x, l, h⟩ := crt_exists i (by omega) (fun j hj => hp j (by omega)) (fun j hj => hX j (by omega))
    have e := h.2.2.2 X fun j hj => hX j (by omega)
    refine ⟨_, _, h.step (T := X / l) (by omega) (hp i (by omega)) ?_⟩
    have e2 : x + l * (X / l) = X := by rw [← e]; exact Nat.mod_add_div X l
    rw [e2]
    exact hX i (by omega)
def GC3 (w : World) (xs ys : List Nat) (er : Int) (L : Nat) (e : Ending) (w' : World) : Prop :=
  ∃ A n c A2 n2 c2, e = .returned (.tuple #[.slice A n c, .slice A2 n2 c2, .int .i64 er]) ∧ Below w.heap.size w w' ∧ n ≤ L ∧ n2 ≤ L ∧ Rd .u64 w' A n c xs ∧ Rd .u64 w' A2 n2 c2 ys
theorem gcrt_len {A A' : Option Addr} {n m c d : Nat} {w : World} (h : n ≠ m) : Calls Tryz.prog 20 #[.slice A n c, .slice A' m d] w (GC3 w [] [] 3 1203) := by
  have q0 : ((n : Int) != (m : Int)) = true := by simp; omega
  go_enter Tryz.func20, Tryz.ntmps20
  go_wp2
  go_ret3
  exact ⟨_, _, _, _, _, _, rfl, Below.refl _ _, Nat.zero_le _, Nat.zero_le _, rd_none, rd_none⟩
theorem crt5_len {A A' : Option Addr} {n m c d : Nat} {w : World} (h : n ≠ m) : Calls Tryz.prog 22 #[.slice A n c, .slice A' m d] w (GC3 w [] [] 3 1203) := by
  have q0 : ((n : Int) != (m : Int)) = true := by simp; omega
  go_enter Tryz.func22, Tryz.ntmps22
  go_wp2
  go_ret3
  exact ⟨_, _, _, _, _, _, rfl, Below.refl _ _, Nat.zero_le _, Nat.zero_le _, rd_none, rd_none⟩
theorem crt_both (rs ms : List Nat) (n m : Nat) (hn : n ≤ 20) (hlen : ms.length = m) : ∃ (xs ys : List Nat) (er : Int),
    (∀ (w : World) (A A' : Option Addr) (c d : Nat), Nums w A n c rs (List.replicate n 30) → Nums w A' m d ms (List.replicate m 30) → Calls Tryz.prog 20 #[.slice A n c, .slice A' m d] w (GC3 w xs ys er 1203)) ∧
    (∀ (w : World) (A A' : Option Addr) (c d : Nat), Nums w A n c rs (List.replicate n 30) → Nums w A' m d ms (List.replicate m 30) → Calls Tryz.prog 22 #[.slice A n c, .slice A' m d] w (GC3 w xs ys er 1203)) := by
  by_cases hnm : n = m
  · subst hnm
    have key : ∃ (xs ys : List Nat) (er : Int), ∀ {w w' : World} {A1 A2 : Option Addr} {n1 c1 n2 c2 : Nat} {er' : Int}, CrS w w' rs ms n A1 n1 c1 A2 n2 c2 er' → er' = er ∧ Rd .u64 w' A1 n1 c1 xs ∧ Rd .u64 w' A2 n2 c2 ys := by
      by_cases hz : ∃ i, i < n ∧ nth ms i = 0
      · refine ⟨[], [], 1, fun h => ?_⟩
        rcases h with ⟨⟨rfl, rfl, rfl⟩, ⟨rfl, rfl, rfl⟩, ⟨rfl, _⟩ | ⟨_, h, _⟩⟩ | ⟨_, h, _⟩
        · exact ⟨rfl, rd_none, rd_none⟩
        · obtain ⟨i, hi, e⟩ := hz; have := h i hi; omega
        · obtain ⟨i, hi, e⟩ := hz; have := h i hi; omega
      · by_cases hX : ∃ X, ∀ j, j < n → X % nth ms j = nth rs j % nth ms j
        · obtain ⟨X, hX⟩ := hX
          obtain ⟨x, l, hc⟩ := crt_exists (rs := rs) (ms := ms) n (by omega) (fun j hj => Nat.pos_of_ne_zero fun e => hz ⟨j, hj, e⟩) hX
          refine ⟨dg W x, dg W l, 0, fun h => ?_⟩
          rcases h with ⟨_, _, ⟨_, h⟩ | ⟨_, _, h⟩⟩ | ⟨rfl, _, x', l', h, h1, h2⟩
          · exact absurd h hz
          · exact absurd ⟨X, hX⟩ h
          · obtain ⟨rfl, rfl⟩ := hc.uniq h
            exact ⟨rfl, h1.rd, h2.rd⟩
        · refine ⟨[], [], 4, fun h => ?_⟩
          rcases h with ⟨⟨rfl, rfl, rfl⟩, ⟨rfl, rfl, rfl⟩, ⟨_, h⟩ | ⟨rfl, _⟩⟩ | ⟨_, _, x', l', h, _⟩
          · exact absurd h hz
          · exact ⟨rfl, rd_none, rd_none⟩
          · exact absurd ⟨x', fun j hj => (h.2.2.1 j hj).2⟩ hX
    obtain ⟨xs, ys, er, key⟩ := key
    refine ⟨xs, ys, er, fun w A A' c d h h' => ?_, fun w A A' c d h h' => ?_⟩
    · refine (gcrt_any h h' (fun i => nth_replicate_le _ _ _) (fun i => nth_replicate_le _ _ _) hn).mono fun e w' ⟨A1, n1, c1, A2, n2, c2, er', h1, h2, h3, h4, h5⟩ => ?_
      obtain ⟨rfl, k1, k2⟩ := key h5.out
      exact ⟨A1, n1, c1, A2, n2, c2, h1, h2, by omega, by omega, k1, k2⟩
    · refine (crt5_any h h' (fun i => nth_replicate_le _ _ _) (fun i => nth_replicate_le _ _ _) hn).mono fun e w' ⟨A1, n1, c1, A2, n2, c2, er', h1, h2, h3, h4, h5⟩ => ?_
      obtain ⟨rfl, k1, k2⟩ := key h5.out
      exact ⟨A1, n1, c1, A2, n2, c2, h1, h2, h3, h4, k1, k2⟩
  · exact ⟨[], [], 3, fun w A A' c d h h' => gcrt_len hnm, fun w A A' c d h h' => crt5_len hnm⟩
set_option maxHeartbeats 16000000 in
set_option maxRecDepth 100000 in
theorem gcdExtends_any {vA vB vK : Value} {A3 A4 : Option Addr} {n3 c3 n4 c4 a b k LA LB LK : Nat} {N : Int} {xs ys ls ms : List Nat} {w : World} (hA : Num w vA a LA) (hB : Num w vB b LB) (hK : Num w vK k LK) (h3 : Nums w A3 n3 c3 xs ls) (h4 : Nums w A4 n4 c4 ys ms) :
    Calls Tryz.prog 4 #[.agg #[vA, vB, vK, .slice A3 n3 c3, .slice A4 n4 c4, .int .i64 N]] w (Keeps (.bool true) w) := by
  have HA := Lib.hid hA
  have HB := Lib.hid hB
  have HK := Lib.hid hK
  have HS3 := Lib.hid h3
  have HS4 := Lib.hid h4
  obtain ⟨pA, nA, cA, _, rfl, _⟩ := id hA
  obtain ⟨pB, nB, cB, _, rfl, _⟩ := id hB
  obtain ⟨pK, nK, cK, _, rfl, _⟩ := id hK
  clear hA hB hK h3 h4
  go_enter Tryz.func4, Tryz.ntmps4
  go_wp2_with fail
  refine (fixed05_any).mono ?_
  rintro e w1 ⟨rfl, hb1⟩
  obtain ⟨z0a, z0b, z0c⟩ := ((Cel.box (i := 0) (v := .slice pA nA cA) (t := 26) (b := w.heap.size) w #[.slice pA nA cA, .slice pB nB cB, .slice pK nK cK, .slice A3 n3 c3, .slice A4 n4 c4, .int .i64 N] rfl (by simp)).below hb1)
  obtain ⟨z1a, z1b, z1c⟩ := ((Cel.box (i := 1) (v := .slice pB nB cB) (t := 26) (b := w.heap.size) w #[.slice pA nA cA, .slice pB nB cB, .slice pK nK cK, .slice A3 n3 c3, .slice A4 n4 c4, .int .i64 N] rfl (by simp)).below hb1)
  obtain ⟨z2a, z2b, z2c⟩ := ((Cel.box (i := 2) (v := .slice pK nK cK) (t := 26) (b := w.heap.size) w #[.slice pA nA cA, .slice pB nB cB, .slice pK nK cK, .slice A3 n3 c3, .slice A4 n4 c4, .int .i64 N] rfl (by simp)).below hb1)
  obtain ⟨z3a, z3b, z3c⟩ := ((Cel.box (i := 3) (v := .slice A3 n3 c3) (t := 26) (b := w.heap.size) w #[.slice pA nA cA, .slice pB nB cB, .slice pK nK cK, .slice A3 n3 c3, .slice A4 n4 c4, .int .i64 N] rfl (by simp)).below hb1)
  obtain ⟨z4a, z4b, z4c⟩ := ((Cel.box (i := 4) (v := .slice A4 n4 c4) (t := 26) (b := w.heap.size) w #[.slice pA nA cA, .slice pB nB cB, .slice pK nK cK, .slice A3 n3 c3, .slice A4 n4 c4, .int .i64 N] rfl (by simp)).below hb1)
  obtain ⟨z5a, z5b, z5c⟩ := ((Cel.box (i := 5) (v := .int .i64 N) (t := 26) (b := w.heap.size) w #[.slice pA nA cA, .slice pB nB cB, .slice pK nK cK, .slice A3 n3 c3, .slice A4 n4 c4, .int .i64 N] rfl (by simp)).below hb1)
  go_wp2_with fail
  refine (less05_any (bt ((Below.refl _ _).alloc (Nat.le_refl _) (.cells #[.slice pA nA cA, .slice pB nB cB, .slice pK nK cK, .slice A3 n3 c3, .slice A4 n4 c4, .int .i64 N] 26)) hb1) HA.out HB.out HK.out HS3.out HS4.out).mono ?_
  rintro e wl ⟨uA, uB, uK, pL, nL, cL, vsL, pM, nM, cM, vsM, rfl, ⟨hA, hB, hK⟩, ⟨hnL, oL, vL⟩, ⟨hnM, oM, vM⟩, hbl⟩
  have HOL := Lib.hid (And.intro oL (And.intro oM z0c))
  clear oL oM
  have HLB : Hid (LawB w #[.slice pA nA cA, .slice pB nB cB, .slice pK nK cK, .slice A3 n3 c3, .slice A4 n4 c4, .int .i64 N] wl) := by
    refine ⟨(bt (bt ((Below.refl _ _).alloc (Nat.le_refl _) (.cells #[.slice pA nA cA, .slice pB nB cB, .slice pK nK cK, .slice A3 n3 c3, .slice A4 n4 c4, .int .i64 N] 26)) hb1) hbl), fun i v hv => ?_⟩
    rcases six hv with ⟨rfl, rfl⟩ | ⟨rfl, rfl⟩ | ⟨rfl, rfl⟩ | ⟨rfl, rfl⟩ | ⟨rfl, rfl⟩ | ⟨rfl, rfl⟩
    · exact (((Cel.box (i := 0) (v := .slice pA nA cA) (t := 26) (b := w.heap.size) w #[.slice pA nA cA, .slice pB nB cB, .slice pK nK cK, .slice A3 n3 c3, .slice A4 n4 c4, .int .i64 N] rfl (by simp)).below hb1).below hbl)
    · exact (((Cel.box (i := 1) (v := .slice pB nB cB) (t := 26) (b := w.heap.size) w #[.slice pA nA cA, .slice pB nB cB, .slice pK nK cK, .slice A3 n3 c3, .slice A4 n4 c4, .int .i64 N] rfl (by simp)).below hb1).below hbl)
    · exact (((Cel.box (i := 2) (v := .slice pK nK cK) (t := 26) (b := w.heap.size) w #[.slice pA nA cA, .slice pB nB cB, .slice pK nK cK, .slice A3 n3 c3, .slice A4 n4 c4, .int .i64 N] rfl (by simp)).below hb1).below hbl)
    · exact (((Cel.box (i := 3) (v := .slice A3 n3 c3) (t := 26) (b := w.heap.size) w #[.slice pA nA cA, .slice pB nB cB, .slice pK nK cK, .slice A3 n3 c3, .slice A4 n4 c4, .int .i64 N] rfl (by simp)).below hb1).below hbl)
    · exact (((Cel.box (i := 4) (v := .slice A4 n4 c4) (t := 26) (b := w.heap.size) w #[.slice pA nA cA, .slice pB nB cB, .slice pK nK cK, .slice A3 n3 c3, .slice A4 n4 c4, .int .i64 N] rfl (by simp)).below hb1).below hbl)
    · exact (((Cel.box (i := 5) (v := .int .i64 N) (t := 26) (b := w.heap.size) w #[.slice pA nA cA, .slice pB nB cB, .slice pK nK cK, .slice A3 n3 c3, .slice A4 n4 c4, .int .i64 N] rfl (by simp)).below hb1).below hbl)
  clear z0a z0b z0c z1a z1b z1c z2a z2b z2c z3a z3b z3c z4a z4b z4c z5a z5b z5c
  obtain ⟨z0a, z0b, z0c⟩ := HLB.out.2 0 _ rfl
  obtain ⟨z1a, z1b, z1c⟩ := HLB.out.2 1 _ rfl
  obtain ⟨z2a, z2b, z2c⟩ := HLB.out.2 2 _ rfl
  obtain ⟨z3a, z3b, z3c⟩ := HLB.out.2 3 _ rfl
  obtain ⟨z4a, z4b, z4c⟩ := HLB.out.2 4 _ rfl
  obtain ⟨z5a, z5b, z5c⟩ := HLB.out.2 5 _ rfl
  obtain ⟨pA', nA', cA', _, rfl, _⟩ := id hA
  obtain ⟨pB', nB', cB', _, rfl, _⟩ := id hB
  obtain ⟨pK', nK', cK', _, rfl, _⟩ := id hK
  generalize a % W ^ 30 = a at *
  generalize b % W ^ 30 = b at *
  generalize k % W ^ 30 = k at *
  have HNA := Lib.hid hA
  have HNB := Lib.hid hB
  have HNK := Lib.hid hK
  have HVL := Lib.hid vL
  have HVM := Lib.hid vM
  clear hA hB hK vL vM
  go_wp2_with fail
  obtain ⟨wz, hwz⟩ : ∃ wz : World, wz = ((((((wl.setCell ⟨w.heap.size, 0, none⟩ (.slice pA' nA' cA')).setCell ⟨w.heap.size, 1, none⟩ (.slice pB' nB' cB')).setCell ⟨w.heap.size, 2, none⟩ (.slice pK' nK' cK')).setCell ⟨w.heap.size, 3, none⟩ (.slice pL nL cL)).setCell ⟨w.heap.size, 4, none⟩ (.slice pM nM cM)).setCell ⟨w.heap.size, 5, none⟩ (.int .i64 N)) := ⟨_, rfl⟩
  rw [← hwz]
  have HZ : Hid (LawB w #[.slice pA' nA' cA', .slice pB' nB' cB', .slice pK' nK' cK', .slice pL nL cL, .slice pM nM cM, .int .i64 N] wz) := by
    show LawB _ _ _
    rw [hwz]; exact HLB.out.set6
  have HNL : Hid (Nums wz pL nL cL (vsL.map (mval w)) (List.replicate nL 30)) := by
    show Nums _ _ _ _ _ _
    refine HVL.out.nums (B := w.heap.size + 1) (T := 23) ?_ HZ.out.1
    rw [hwz]
    exact ((((((HOL.out.1.mono HOL.out.2.2).set_low (p := ⟨w.heap.size, 0, none⟩) (by simp) _).set_low (p := ⟨w.heap.size, 1, none⟩) (by simp) _).set_low (p := ⟨w.heap.size, 2, none⟩) (by simp) _).set_low (p := ⟨w.heap.size, 3, none⟩) (by simp) _).set_low (p := ⟨w.heap.size, 4, none⟩) (by simp) _).set_low (p := ⟨w.heap.size, 5, none⟩) (by simp) _
  have HNM : Hid (Nums wz pM nM cM (vsM.map (mval w)) (List.replicate nM 30)) := by
    show Nums _ _ _ _ _ _
    refine HVM.out.nums (B := w.heap.size + 1) (T := 23) ?_ HZ.out.1
    rw [hwz]
    exact ((((((HOL.out.2.1.mono HOL.out.2.2).set_low (p := ⟨w.heap.size, 0, none⟩) (by simp) _).set_low (p := ⟨w.heap.size, 1, none⟩) (by simp) _).set_low (p := ⟨w.heap.size, 2, none⟩) (by simp) _).set_low (p := ⟨w.heap.size, 3, none⟩) (by simp) _).set_low (p := ⟨w.heap.size, 4, none⟩) (by simp) _).set_low (p := ⟨w.heap.size, 5, none⟩) (by simp) _
  clear z0a z0b z0c z1a z1b z1c z2a z2b z2c z3a z3b z3c z4a z4b z4c z5a z5b z5c hwz
  generalize vsL.map (mval w) = xs at *
  generalize vsM.map (mval w) = ys at *
  have HLL := Lib.hid HNL.out.1
  have HLM := Lib.hid HNM.out.1
  have hsL : lsum (List.replicate nL 30) ≤ 600 := by rw [lsum_replicate]; omega
  have hsM : lsum (List.replicate nM 30) ≤ 600 := by rw [lsum_replicate]; omega
  obtain ⟨xi, eri, CI1, CI2⟩ := inv_both a b
  obtain ⟨xc, yc, erc, CC1, CC2⟩ := crt_both xs ys nL nM (by omega) HLM.out.1
  have HI1 := Lib.hid CI1
  have HI2 := Lib.hid CI2
  have HC1 := Lib.hid CC1
  have HC2 := Lib.hid CC2
  clear CI1 CI2 CC1 CC2
  go_wp2_with fail
  have e_f0 := (At.of (HZ.out.2 0 _ rfl)).1
  have g_f0 := At.growB (At.of (HZ.out.2 0 _ rfl))
  have e_f1 := (At.of (HZ.out.2 1 _ rfl)).1
  have g_f1 := At.growB (At.of (HZ.out.2 1 _ rfl))
  refine wp_region_fltR (KB (wz).heap.size) (KB.refl _) (KB.trans _) (KB.of_grow _) [(0, 0), (0, 1), (0, 3), (0, 4), (2, 11), (2, 12), (1, 2), (1, 5), (1, 6), (0, 7), (0, 8), (0, 9), (0, 10), (4, 11), (4, 12), (0, 13), (3, 14), (3, 15)] (by kernel_rfl) (by kernel_rfl) ?_
  repeat (refine flt_pas (by rfl) (fun K hK => ?_); go_simp; refine hK _ _ (fun w' hw' => (by first | (go_simp; done) | (go_simp; intro hh; cases hh))) ?_; clear hK K)
  refine flt_alloc ((World.drew wz).heap.size) 40 #[.bool false, .slice none 0 0] (by rfl) rfl (fun w1 => (by go_simp)) (Nat.le_refl _) ?_
  refine flt_alloc ((World.drew wz).heap.size) 40 #[.bool false, .slice none 0 0] (by rfl) rfl (fun w1 => (by go_simp)) (Nat.le_refl _) ?_
  refine flt_call (by rfl) (fun w1 hw1 K hK => ?_); go_simp; refine hK _ _ ?_; clear hK K
  refine (copied05_any (((HNA.out.below HZ.out.1).below (below_drewN _ 1)).below hw1.below) (by omega)).mono ?_
  rintro e w2 ⟨A_ca, n_ca, c_ca, xs_ca, rfl, o_ca, a_ca, v_ca, hb2, l_ca⟩
  have V_ca := Lib.hid v_ca
  clear v_ca
  refine ⟨_, rfl, Grow.of_below hb2, ?_⟩
  (refine flt_norm (fun K hK => ?_); go_simp; refine hK _ ?_; clear hK K)
  refine flt_call (by rfl) (fun w3 hw3 K hK => ?_); go_simp; refine hK _ _ ?_; clear hK K
  refine (copied05_any (((((HNB.out.below HZ.out.1).below (below_drewN _ 1)).below hw1.below).below hb2).below hw3.below) (by omega)).mono ?_
  rintro e w4 ⟨A_cb, n_cb, c_cb, xs_cb, rfl, o_cb, a_cb, v_cb, hb4, l_cb⟩
  have V_cb := Lib.hid v_cb
  clear v_cb
  refine ⟨_, rfl, Grow.of_below hb4, ?_⟩
  (refine flt_norm (fun K hK => ?_); go_simp; refine hK _ ?_; clear hK K)
  refine flt_call (by rfl) (fun w5 hw5 K hK => ?_); go_simp; refine hK _ _ ?_; clear hK K
  refine (extended_any ((((o_ca.numv a_ca V_ca.out l_ca).below hw3.below).below hb4).below hw5.below) ((o_cb.numv a_cb V_cb.out l_cb).below hw5.below) (by omega) (by omega)).mono ?_
  rintro e w6 ⟨vx, vy, neg_, A_g, n_g, c_g, A_x, n_x, c_x, A_y, n_y, c_y, hExt, rfl, ⟨o_g, o_x, o_y⟩, hb6, l_g, l_x, l_y⟩
  refine ⟨_, rfl, Grow.of_below hb6, ?_⟩
  (refine flt_norm (fun K hK => ?_); go_simp; refine hK _ ?_; clear hK K)
  have HE1 := Lib.hid hExt
  clear hExt
  obtain ⟨ng, rfl⟩ : ∃ ng : Bool, ng = neg_ := ⟨_, rfl⟩
  repeat (refine flt_pas (by rfl) (fun K hK => ?_); go_simp; refine hK _ _ (fun w' hw' => (by first | (go_simp; done) | (go_simp; intro hh; cases hh))) ?_; clear hK K)
  refine flt_landA (by rfl) (fun v_zx w7 hw7 hF => ?_)
  obtain ⟨b_zx, rfl, hB_zx, hc_zx⟩ := hF
  (refine flt_norm (fun K hK => ?_); go_simp; refine hK _ ?_; clear hK K)
  refine flt_land (by rfl) (fun v_zy w8 hw8 hF => ?_)
  obtain ⟨⟨b_zy, rfl, hB_zy, hc_zy⟩, hA_zy⟩ := hF
  (refine flt_norm (fun K hK => ?_); go_simp; refine hK _ ?_; clear hK K)
  have hc_zx := (hw8.below.block _ (Array.getElem?_eq_some_iff.1 hc_zx).1).trans hc_zx
  have hne : b_zy ≠ b_zx := hA_zy _ _ rfl rfl
  repeat (refine flt_pas (by rfl) (fun K hK => ?_); go_simp; refine hK _ _ (fun w' hw' => (by first | (go_simp; done) | (go_simp; intro hh; cases hh))) ?_; clear hK K)
  obtain ⟨cz1, cz2, cz3⟩ := cel_of hc_zx (j := 0) rfl
  obtain ⟨cz4, cz5, cz6⟩ := cel_of hc_zx (j := 1) rfl
  (refine flt_actX (by rfl) (fun K hK => ?_); go_simp)
  refine hK _ _ ⟨KB.set2 hB_zx, ?_⟩
  clear hK K
  (refine flt_norm (fun K hK => ?_); go_simp; refine hK _ ?_; clear hK K)
  obtain ⟨wv, hwv⟩ : ∃ wv : World, wv = ((w8).setCell ⟨b_zx, 0, none⟩ (.bool false)).setCell ⟨b_zx, 1, none⟩ (.slice A_x n_x c_x) := ⟨_, rfl⟩
  rw [← hwv]
  have HKX : Hid (Below ((World.drew wz)).heap.size ((World.drew wz)) (w8) ∧ (∃ B, Own .u64 49 B (w8) A_g n_g c_g (dg W (Nat.gcd a b))) ∧ (∃ B, Own .u64 49 B (w8) A_x n_x c_x (dg W vx)) ∧ (∃ B, Own .u64 49 B (w8) A_y n_y c_y (dg W vy))) := ⟨(bt (bt (bt (bt (bt (bt (bt hw1.below hb2) hw3.below) hb4) hw5.below) hb6) hw7.below) hw8.below), ⟨_, ((o_g.below hw7.below).below hw8.below)⟩, ⟨_, ((o_x.below hw7.below).below hw8.below)⟩, ⟨_, ((o_y.below hw7.below).below hw8.below)⟩⟩
  have hyx : ∀ (i j : Nat), (⟨b_zx, i, none⟩ : Addr) ≠ ⟨b_zy, j, none⟩ := fun i j e => by injection e with e _ _; exact hne e.symm
  have hxy : ∀ (i j : Nat), (⟨b_zy, i, none⟩ : Addr) ≠ ⟨b_zx, j, none⟩ := fun i j e => by injection e with e _ _; exact hne e
  have HV : Hid (Cel wv ⟨b_zx, 0, none⟩ (.bool false) ∧ Cel wv ⟨b_zx, 1, none⟩ (.slice A_x n_x c_x) ∧ Cel wv ⟨b_zy, 0, none⟩ (.bool false) ∧ Cel wv ⟨b_zy, 1, none⟩ (.slice none 0 0) ∧ BoxT 40 b_zy wv ∧ Below ((World.drew wz)).heap.size ((World.drew wz)) wv ∧ (∃ B, Own .u64 49 B wv A_g n_g c_g (dg W (Nat.gcd a b))) ∧ (∃ B, Own .u64 49 B wv A_x n_x c_x (dg W vx)) ∧ (∃ B, Own .u64 49 B wv A_y n_y c_y (dg W vy))) := by
    rw [hwv]
    have hbx : BoxT 40 b_zx _ := ⟨_, _, hc_zx⟩
    have hby : BoxT 40 b_zy _ := ⟨_, _, hc_zy⟩
    obtain ⟨k1, ⟨B1, k2⟩, ⟨B2, k3⟩, ⟨B3, k4⟩⟩ := HKX.out
    exact ⟨(Cel.put ⟨cz1, cz2, cz3⟩).set (by simp), (Cel.set ⟨cz4, cz5, cz6⟩ (by simp)).put, ((cel_of hc_zy (j := 0) rfl).set (hyx _ _)).set (hyx _ _), ((cel_of hc_zy (j := 1) rfl).set (hyx _ _)).set (hyx _ _), hby.set.set,
      (k1.setCell (p := ⟨b_zx, 0, none⟩) hB_zx _).setCell (p := ⟨b_zx, 1, none⟩) hB_zx _, ⟨B1, (k2.set_ty (p := ⟨b_zx, 0, none⟩) hbx (by decide)).set_ty (p := ⟨b_zx, 1, none⟩) hbx.set (by decide)⟩, ⟨B2, (k3.set_ty (p := ⟨b_zx, 0, none⟩) hbx (by decide)).set_ty (p := ⟨b_zx, 1, none⟩) hbx.set (by decide)⟩, ⟨B3, (k4.set_ty (p := ⟨b_zx, 0, none⟩) hbx (by decide)).set_ty (p := ⟨b_zx, 1, none⟩) hbx.set (by decide)⟩⟩
  clear cz1 cz2 cz3 cz4 cz5 cz6 HKX hwv
  obtain ⟨cz1, cz2, cz3⟩ := HV.out.2.2.1
  obtain ⟨cz4, cz5, cz6⟩ := HV.out.2.2.2.1
  (refine flt_actX (by rfl) (fun K hK => ?_); go_simp)
  refine hK _ _ ⟨KB.set2 hB_zy, ?_⟩
  clear hK K
  repeat (refine flt_pas (by rfl) (fun K hK => ?_); go_simp; refine hK _ _ (fun w' hw' => (by first | (go_simp; done) | (go_simp; intro hh; cases hh))) ?_; clear hK K)
  refine flt_nil ?_
  clear g_f0 e_f0 g_f1 e_f1
  obtain ⟨wu, hwu⟩ : ∃ wu : World, wu = (wv.setCell ⟨b_zy, 0, none⟩ (.bool ng)).setCell ⟨b_zy, 1, none⟩ (.slice A_y n_y c_y) := ⟨_, rfl⟩
  rw [← hwu]
  have HU : Hid (Below ((World.drew wz)).heap.size ((World.drew wz)) wu ∧ At wu ⟨b_zx, 0, none⟩ (.bool false) ∧ At wu ⟨b_zx, 1, none⟩ (.slice A_x n_x c_x) ∧ At wu ⟨b_zy, 0, none⟩ (.bool ng) ∧ At wu ⟨b_zy, 1, none⟩ (.slice A_y n_y c_y) ∧ Rd .u64 wu A_g n_g c_g (dg W (Nat.gcd a b)) ∧ Rd .u64 wu A_x n_x c_x (dg W vx) ∧ Rd .u64 wu A_y n_y c_y (dg W vy) ∧ Num wu (.slice A_g n_g c_g) (Nat.gcd a b) 60 ∧ Num wu (.slice A_x n_x c_x) vx 60 ∧ Num wu (.slice A_y n_y c_y) vy 60) := by
    rw [hwu]
    obtain ⟨k1, k2, k3, k4, k5, k6, ⟨B1, k7⟩, ⟨B2, k8⟩, ⟨B3, k9⟩⟩ := HV.out
    have o1 := (k7.set_ty (p := ⟨b_zy, 0, none⟩) (u := .bool ng) k5 (by decide)).set_ty (p := ⟨b_zy, 1, none⟩) (u := .slice A_y n_y c_y) k5.set (by decide)
    have o2 := (k8.set_ty (p := ⟨b_zy, 0, none⟩) (u := .bool ng) k5 (by decide)).set_ty (p := ⟨b_zy, 1, none⟩) (u := .slice A_y n_y c_y) k5.set (by decide)
    have o3 := (k9.set_ty (p := ⟨b_zy, 0, none⟩) (u := .bool ng) k5 (by decide)).set_ty (p := ⟨b_zy, 1, none⟩) (u := .slice A_y n_y c_y) k5.set (by decide)
    exact ⟨(k6.setCell (p := ⟨b_zy, 0, none⟩) hB_zy _).setCell (p := ⟨b_zy, 1, none⟩) hB_zy _, Cel.at ((k1.set (hxy _ _)).set (hxy _ _)), Cel.at ((k2.set (hxy _ _)).set (hxy _ _)), Cel.at (k3.put.set (by simp)), Cel.at ((k4.set (by simp)).put), o1.rd, o2.rd, o3.rd, o1.num l_g, o2.num l_x, o3.num l_y⟩
  clear cz1 cz2 cz3 cz4 cz5 cz6 HV hwu hc_zx hc_zy hA_zy hyx hxy o_ca o_cb o_g o_x o_y
  have e0 := (((At.of (HZ.out.2 0 _ rfl)).below (below_drewN _ 1)).below HU.out.1).1
  have e1 := (((At.of (HZ.out.2 1 _ rfl)).below (below_drewN _ 1)).below HU.out.1).1
  go_wp2_with fail
  refine (extended5_any (K := 30) (((HNA.out.below HZ.out.1).below (below_drewN _ 1)).below HU.out.1) (((HNB.out.below HZ.out.1).below (below_drewN _ 1)).below HU.out.1) (by omega) (by omega)).mono ?_
  rintro e w9 ⟨vs, vt, neg_, A_h, n_h, c_h, A_s, n_s, c_s, A_t, n_t, c_t, hExt, rfl, ⟨o_h, o_s, o_t⟩, hb9, l_h, l_s, l_t⟩
  obtain ⟨rfl, rfl, rfl⟩ := ext_uniq HE1.out hExt
  clear hExt e0 e1
  go_wp2_with fail
  refine (same5k_any (((HU.out.2.2.2.2.2.1.below hb9).below ((Below.refl _ _).alloc (Nat.le_refl _) (.cells #[.bool false, .slice A_s n_s c_s] 40))).below ((Below.refl _ _).alloc (Nat.le_refl _) (.cells #[.bool ng, .slice A_t n_t c_t] 40))) ((o_h.rd.below ((Below.refl _ _).alloc (Nat.le_refl _) (.cells #[.bool false, .slice A_s n_s c_s] 40))).below ((Below.refl _ _).alloc (Nat.le_refl _) (.cells #[.bool ng, .slice A_t n_t c_t] 40))) rfl (by omega)).mono ?_
  rintro e w10 ⟨rfl, hb10⟩
  have e0 := ((((HU.out.2.1.below hb9).below ((Below.refl _ _).alloc (Nat.le_refl _) (.cells #[.bool false, .slice A_s n_s c_s] 40))).below ((Below.refl _ _).alloc (Nat.le_refl _) (.cells #[.bool ng, .slice A_t n_t c_t] 40))).below hb10).1
  have e1 := ((((HU.out.2.2.1.below hb9).below ((Below.refl _ _).alloc (Nat.le_refl _) (.cells #[.bool false, .slice A_s n_s c_s] 40))).below ((Below.refl _ _).alloc (Nat.le_refl _) (.cells #[.bool ng, .slice A_t n_t c_t] 40))).below hb10).1
  have e2 := (((At.boxc (i := 0) (v := .bool false) (t := 40) (b := w9.heap.size) w9 #[.bool false, .slice A_s n_s c_s] rfl (by simp)).below ((Below.refl _ _).alloc (Nat.le_refl _) (.cells #[.bool ng, .slice A_t n_t c_t] 40))).below hb10).1
  have e3 := (((At.boxc (i := 1) (v := .slice A_s n_s c_s) (t := 40) (b := w9.heap.size) w9 #[.bool false, .slice A_s n_s c_s] rfl (by simp)).below ((Below.refl _ _).alloc (Nat.le_refl _) (.cells #[.bool ng, .slice A_t n_t c_t] 40))).below hb10).1
  go_wp2_with fail
  refine (sameInt_yes ((((HU.out.2.2.2.2.2.2.1.below hb9).below ((Below.refl _ _).alloc (Nat.le_refl _) (.cells #[.bool false, .slice A_s n_s c_s] 40))).below ((Below.refl _ _).alloc (Nat.le_refl _) (.cells #[.bool ng, .slice A_t n_t c_t] 40))).below hb10) (((o_s.rd.below ((Below.refl _ _).alloc (Nat.le_refl _) (.cells #[.bool false, .slice A_s n_s c_s] 40))).below ((Below.refl _ _).alloc (Nat.le_refl _) (.cells #[.bool ng, .slice A_t n_t c_t] 40))).below hb10) rfl rfl (by omega)).mono ?_
  rintro e w11 ⟨rfl, hb11⟩
  clear e0 e1 e2 e3
  have e0 := (((((HU.out.2.2.2.1.below hb9).below ((Below.refl _ _).alloc (Nat.le_refl _) (.cells #[.bool false, .slice A_s n_s c_s] 40))).below ((Below.refl _ _).alloc (Nat.le_refl _) (.cells #[.bool ng, .slice A_t n_t c_t] 40))).below hb10).below hb11).1
  have e1 := (((((HU.out.2.2.2.2.1.below hb9).below ((Below.refl _ _).alloc (Nat.le_refl _) (.cells #[.bool false, .slice A_s n_s c_s] 40))).below ((Below.refl _ _).alloc (Nat.le_refl _) (.cells #[.bool ng, .slice A_t n_t c_t] 40))).below hb10).below hb11).1
  have e2 := (((At.boxc (i := 0) (v := .bool ng) (t := 40) (b := w9.heap.size + 1) (World.alloc w9 (.cells #[.bool false, .slice A_s n_s c_s] 40)) #[.bool ng, .slice A_t n_t c_t] rfl (by simp)).below hb10).below hb11).1
  have e3 := (((At.boxc (i := 1) (v := .slice A_t n_t c_t) (t := 40) (b := w9.heap.size + 1) (World.alloc w9 (.cells #[.bool false, .slice A_s n_s c_s] 40)) #[.bool ng, .slice A_t n_t c_t] rfl (by simp)).below hb10).below hb11).1
  go_wp2_with fail
  refine (sameInt_yes (((((HU.out.2.2.2.2.2.2.2.1.below hb9).below ((Below.refl _ _).alloc (Nat.le_refl _) (.cells #[.bool false, .slice A_s n_s c_s] 40))).below ((Below.refl _ _).alloc (Nat.le_refl _) (.cells #[.bool ng, .slice A_t n_t c_t] 40))).below hb10).below hb11) ((((o_t.rd.below ((Below.refl _ _).alloc (Nat.le_refl _) (.cells #[.bool false, .slice A_s n_s c_s] 40))).below ((Below.refl _ _).alloc (Nat.le_refl _) (.cells #[.bool ng, .slice A_t n_t c_t] 40))).below hb10).below hb11) rfl rfl (by omega)).mono ?_
  rintro e w12 ⟨rfl, hb12⟩
  clear e0 e1 e2 e3 o_h o_s o_t
  go_wp2_with fail
  have e_f0 := (((((((((At.of (HZ.out.2 0 _ rfl)).below (below_drewN _ 1)).below HU.out.1).below hb9).below ((Below.refl _ _).alloc (Nat.le_refl _) (.cells #[.bool false, .slice A_s n_s c_s] 40))).below ((Below.refl _ _).alloc (Nat.le_refl _) (.cells #[.bool ng, .slice A_t n_t c_t] 40))).below hb10).below hb11).below hb12).1
  have g_f0 := At.grow (((((((((At.of (HZ.out.2 0 _ rfl)).below (below_drewN _ 1)).below HU.out.1).below hb9).below ((Below.refl _ _).alloc (Nat.le_refl _) (.cells #[.bool false, .slice A_s n_s c_s] 40))).below ((Below.refl _ _).alloc (Nat.le_refl _) (.cells #[.bool ng, .slice A_t n_t c_t] 40))).below hb10).below hb11).below hb12)
  have e_f1 := (((((((((At.of (HZ.out.2 1 _ rfl)).below (below_drewN _ 1)).below HU.out.1).below hb9).below ((Below.refl _ _).alloc (Nat.le_refl _) (.cells #[.bool false, .slice A_s n_s c_s] 40))).below ((Below.refl _ _).alloc (Nat.le_refl _) (.cells #[.bool ng, .slice A_t n_t c_t] 40))).below hb10).below hb11).below hb12).1
  have g_f1 := At.grow (((((((((At.of (HZ.out.2 1 _ rfl)).below (below_drewN _ 1)).below HU.out.1).below hb9).below ((Below.refl _ _).alloc (Nat.le_refl _) (.cells #[.bool false, .slice A_s n_s c_s] 40))).below ((Below.refl _ _).alloc (Nat.le_refl _) (.cells #[.bool ng, .slice A_t n_t c_t] 40))).below hb10).below hb11).below hb12)
  refine wp_region_grow none [(true, 0), (true, 1), (true, 3), (true, 4), (false, 2), (false, 5), (false, 6), (true, 7), (true, 8), (true, 9), (true, 10), (true, 11)] (by kernel_rfl) (by kernel_rfl) ?_
  repeat (refine ord_pas (by rfl) (fun K hK => ?_); go_simp; refine hK _ _ (fun w' hw' => (by first | (go_simp; done) | (go_simp; intro hh; cases hh))) ?_; clear hK K)
  (refine ord_call (by rfl) (fun K hK => ?_); go_simp; refine hK _ _ ?_; clear hK K)
  refine (copied05_any ((((((((((HNA.out.below HZ.out.1).below (below_drewN _ 1)).below HU.out.1).below hb9).below ((Below.refl _ _).alloc (Nat.le_refl _) (.cells #[.bool false, .slice A_s n_s c_s] 40))).below ((Below.refl _ _).alloc (Nat.le_refl _) (.cells #[.bool ng, .slice A_t n_t c_t] 40))).below hb10).below hb11).below hb12).below (Below.refl _ _).drew) (by omega)).mono ?_
  rintro e w13 ⟨A_cc, n_cc, c_cc, xs_cc, rfl, o_cc, a_cc, v_cc, hb13, l_cc⟩
  have V_cc := Lib.hid v_cc
  clear v_cc
  refine ⟨_, rfl, Grow.of_below hb13, ?_⟩
  (refine ord_norm (fun K hK => ?_); go_simp; refine hK _ ?_; clear hK K)
  (refine ord_call (by rfl) (fun K hK => ?_); go_simp; refine hK _ _ ?_; clear hK K)
  refine (copied05_any (((((((((((HNB.out.below HZ.out.1).below (below_drewN _ 1)).below HU.out.1).below hb9).below ((Below.refl _ _).alloc (Nat.le_refl _) (.cells #[.bool false, .slice A_s n_s c_s] 40))).below ((Below.refl _ _).alloc (Nat.le_refl _) (.cells #[.bool ng, .slice A_t n_t c_t] 40))).below hb10).below hb11).below hb12).below (Below.refl _ _).drew).below hb13) (by omega)).mono ?_
  rintro e w14 ⟨A_cd, n_cd, c_cd, xs_cd, rfl, o_cd, a_cd, v_cd, hb14, l_cd⟩
  have V_cd := Lib.hid v_cd
  clear v_cd
  refine ⟨_, rfl, Grow.of_below hb14, ?_⟩
  (refine ord_norm (fun K hK => ?_); go_simp; refine hK _ ?_; clear hK K)
  (refine ord_call (by rfl) (fun K hK => ?_); go_simp; refine hK _ _ ?_; clear hK K)
  refine (HI1.out _ _ _ ((o_cc.numv a_cc V_cc.out l_cc).below hb14) (o_cd.numv a_cd V_cd.out l_cd)).mono ?_
  rintro e w15 ⟨A_n1, n_n1, c_n1, rfl, hb15, l_n1, o_n1⟩
  refine ⟨_, rfl, Grow.of_below hb15, ?_⟩
  (refine ord_norm (fun K hK => ?_); go_simp; refine hK _ ?_; clear hK K)
  repeat (refine ord_pas (by rfl) (fun K hK => ?_); go_simp; refine hK _ _ (fun w' hw' => (by first | (go_simp; done) | (go_simp; intro hh; cases hh))) ?_; clear hK K)
  refine ord_nil ?_
  clear g_f0 e_f0 g_f1 e_f1
  have e0 := (((((((((((((At.of (HZ.out.2 0 _ rfl)).below (below_drewN _ 1)).below HU.out.1).below hb9).below ((Below.refl _ _).alloc (Nat.le_refl _) (.cells #[.bool false, .slice A_s n_s c_s] 40))).below ((Below.refl _ _).alloc (Nat.le_refl _) (.cells #[.bool ng, .slice A_t n_t c_t] 40))).below hb10).below hb11).below hb12).below (Below.refl _ _).drew).below hb13).below hb14).below hb15).1
  have e1 := (((((((((((((At.of (HZ.out.2 1 _ rfl)).below (below_drewN _ 1)).below HU.out.1).below hb9).below ((Below.refl _ _).alloc (Nat.le_refl _) (.cells #[.bool false, .slice A_s n_s c_s] 40))).below ((Below.refl _ _).alloc (Nat.le_refl _) (.cells #[.bool ng, .slice A_t n_t c_t] 40))).below hb10).below hb11).below hb12).below (Below.refl _ _).drew).below hb13).below hb14).below hb15).1
  go_wp2_with fail
  refine (HI2.out _ _ _ (((((((((((((HNA.out.below HZ.out.1).below (below_drewN _ 1)).below HU.out.1).below hb9).below ((Below.refl _ _).alloc (Nat.le_refl _) (.cells #[.bool false, .slice A_s n_s c_s] 40))).below ((Below.refl _ _).alloc (Nat.le_refl _) (.cells #[.bool ng, .slice A_t n_t c_t] 40))).below hb10).below hb11).below hb12).below (Below.refl _ _).drew).below hb13).below hb14).below hb15) (((((((((((((HNB.out.below HZ.out.1).below (below_drewN _ 1)).below HU.out.1).below hb9).below ((Below.refl _ _).alloc (Nat.le_refl _) (.cells #[.bool false, .slice A_s n_s c_s] 40))).below ((Below.refl _ _).alloc (Nat.le_refl _) (.cells #[.bool ng, .slice A_t n_t c_t] 40))).below hb10).below hb11).below hb12).below (Below.refl _ _).drew).below hb13).below hb14).below hb15)).mono ?_
  rintro e w16 ⟨A_n2, n_n2, c_n2, rfl, hb16, l_n2, o_n2⟩
  clear e0 e1
  go_wp2_with fail
  refine (same5k_any (o_n1.below hb16) o_n2 rfl (by omega)).mono ?_
  rintro e w17 ⟨rfl, hb17⟩
  clear o_cc o_cd o_n1 o_n2
  go_wp2_with fail
  have e_f3 := (((((((((((((((At.of (HZ.out.2 3 _ rfl)).below (below_drewN _ 1)).below HU.out.1).below hb9).below ((Below.refl _ _).alloc (Nat.le_refl _) (.cells #[.bool false, .slice A_s n_s c_s] 40))).below ((Below.refl _ _).alloc (Nat.le_refl _) (.cells #[.bool ng, .slice A_t n_t c_t] 40))).below hb10).below hb11).below hb12).below (Below.refl _ _).drew).below hb13).below hb14).below hb15).below hb16).below hb17).1
  have g_f3 := At.grow (((((((((((((((At.of (HZ.out.2 3 _ rfl)).below (below_drewN _ 1)).below HU.out.1).below hb9).below ((Below.refl _ _).alloc (Nat.le_refl _) (.cells #[.bool false, .slice A_s n_s c_s] 40))).below ((Below.refl _ _).alloc (Nat.le_refl _) (.cells #[.bool ng, .slice A_t n_t c_t] 40))).below hb10).below hb11).below hb12).below (Below.refl _ _).drew).below hb13).below hb14).below hb15).below hb16).below hb17)
  have e_f4 := (((((((((((((((At.of (HZ.out.2 4 _ rfl)).below (below_drewN _ 1)).below HU.out.1).below hb9).below ((Below.refl _ _).alloc (Nat.le_refl _) (.cells #[.bool false, .slice A_s n_s c_s] 40))).below ((Below.refl _ _).alloc (Nat.le_refl _) (.cells #[.bool ng, .slice A_t n_t c_t] 40))).below hb10).below hb11).below hb12).below (Below.refl _ _).drew).below hb13).below hb14).below hb15).below hb16).below hb17).1
  have g_f4 := At.grow (((((((((((((((At.of (HZ.out.2 4 _ rfl)).below (below_drewN _ 1)).below HU.out.1).below hb9).below ((Below.refl _ _).alloc (Nat.le_refl _) (.cells #[.bool false, .slice A_s n_s c_s] 40))).below ((Below.refl _ _).alloc (Nat.le_refl _) (.cells #[.bool ng, .slice A_t n_t c_t] 40))).below hb10).below hb11).below hb12).below (Below.refl _ _).drew).below hb13).below hb14).below hb15).below hb16).below hb17)
  refine wp_region_grow none [(true, 0), (true, 1), (true, 3), (true, 4), (false, 2), (false, 5), (false, 6), (true, 7), (true, 8), (true, 9), (true, 10), (true, 11), (true, 12), (true, 13)] (by kernel_rfl) (by kernel_rfl) ?_
  repeat (refine ord_pas (by rfl) (fun K hK => ?_); go_simp; refine hK _ _ (fun w' hw' => (by first | (go_simp; done) | (go_simp; intro hh; cases hh))) ?_; clear hK K)
  (refine ord_call (by rfl) (fun K hK => ?_); go_simp; refine hK _ _ ?_; clear hK K)
  refine (copies05_any (((((((((((((((HNL.out.below (below_drewN _ 1)).below HU.out.1).below hb9).below ((Below.refl _ _).alloc (Nat.le_refl _) (.cells #[.bool false, .slice A_s n_s c_s] 40))).below ((Below.refl _ _).alloc (Nat.le_refl _) (.cells #[.bool ng, .slice A_t n_t c_t] 40))).below hb10).below hb11).below hb12).below (Below.refl _ _).drew).below hb13).below hb14).below hb15).below hb16).below hb17).below (Below.refl _ _).drew) (by omega) (fun i => Nat.le_trans (nth_replicate_le _ _ _) (by omega))).mono ?_
  rintro e w18 ⟨A_q1, c_q1, rfl, o_q1, hb18⟩
  refine ⟨_, rfl, Grow.of_below hb18, ?_⟩
  (refine ord_norm (fun K hK => ?_); go_simp; refine hK _ ?_; clear hK K)
  (refine ord_call (by rfl) (fun K hK => ?_); go_simp; refine hK _ _ ?_; clear hK K)
  refine (copies05_any ((((((((((((((((HNM.out.below (below_drewN _ 1)).below HU.out.1).below hb9).below ((Below.refl _ _).alloc (Nat.le_refl _) (.cells #[.bool false, .slice A_s n_s c_s] 40))).below ((Below.refl _ _).alloc (Nat.le_refl _) (.cells #[.bool ng, .slice A_t n_t c_t] 40))).below hb10).below hb11).below hb12).below (Below.refl _ _).drew).below hb13).below hb14).below hb15).below hb16).below hb17).below (Below.refl _ _).drew).below hb18) (by omega) (fun i => Nat.le_trans (nth_replicate_le _ _ _) (by omega))).mono ?_
  rintro e w19 ⟨A_q2, c_q2, rfl, o_q2, hb19⟩
  refine ⟨_, rfl, Grow.of_below hb19, ?_⟩
  (refine ord_norm (fun K hK => ?_); go_simp; refine hK _ ?_; clear hK K)
  (refine ord_call (by rfl) (fun K hK => ?_); go_simp; refine hK _ _ ?_; clear hK K)
  refine (HC1.out _ _ _ _ _ ((OwnR.nums o_q1 HLL.out.1 HLL.out.2.1 (fun _ _ h => h)).below hb19) (OwnR.nums o_q2 HLM.out.1 HLM.out.2.1 (fun _ _ h => h))).mono ?_
  rintro e w20 ⟨A_p1, n_p1, c_p1, A_p2, n_p2, c_p2, rfl, hb20, l_p1, l_p2, o_p1, o_p2⟩
  refine ⟨_, rfl, Grow.of_below hb20, ?_⟩
  (refine ord_norm (fun K hK => ?_); go_simp; refine hK _ ?_; clear hK K)
  repeat (refine ord_pas (by rfl) (fun K hK => ?_); go_simp; refine hK _ _ (fun w' hw' => (by first | (go_simp; done) | (go_simp; intro hh; cases hh))) ?_; clear hK K)
  refine ord_nil ?_
  clear g_f3 e_f3 g_f4 e_f4
  have e3 := (((((((((((((((((((At.of (HZ.out.2 3 _ rfl)).below (below_drewN _ 1)).below HU.out.1).below hb9).below ((Below.refl _ _).alloc (Nat.le_refl _) (.cells #[.bool false, .slice A_s n_s c_s] 40))).below ((Below.refl _ _).alloc (Nat.le_refl _) (.cells #[.bool ng, .slice A_t n_t c_t] 40))).below hb10).below hb11).below hb12).below (Below.refl _ _).drew).below hb13).below hb14).below hb15).below hb16).below hb17).below (Below.refl _ _).drew).below hb18).below hb19).below hb20).1
  have e4 := (((((((((((((((((((At.of (HZ.out.2 4 _ rfl)).below (below_drewN _ 1)).below HU.out.1).below hb9).below ((Below.refl _ _).alloc (Nat.le_refl _) (.cells #[.bool false, .slice A_s n_s c_s] 40))).below ((Below.refl _ _).alloc (Nat.le_refl _) (.cells #[.bool ng, .slice A_t n_t c_t] 40))).below hb10).below hb11).below hb12).below (Below.refl _ _).drew).below hb13).below hb14).below hb15).below hb16).below hb17).below (Below.refl _ _).drew).below hb18).below hb19).below hb20).1
  go_wp2_with fail
  refine (HC2.out _ _ _ _ _ ((((((((((((((((((HNL.out.below (below_drewN _ 1)).below HU.out.1).below hb9).below ((Below.refl _ _).alloc (Nat.le_refl _) (.cells #[.bool false, .slice A_s n_s c_s] 40))).below ((Below.refl _ _).alloc (Nat.le_refl _) (.cells #[.bool ng, .slice A_t n_t c_t] 40))).below hb10).below hb11).below hb12).below (Below.refl _ _).drew).below hb13).below hb14).below hb15).below hb16).below hb17).below (Below.refl _ _).drew).below hb18).below hb19).below hb20) ((((((((((((((((((HNM.out.below (below_drewN _ 1)).below HU.out.1).below hb9).below ((Below.refl _ _).alloc (Nat.le_refl _) (.cells #[.bool false, .slice A_s n_s c_s] 40))).below ((Below.refl _ _).alloc (Nat.le_refl _) (.cells #[.bool ng, .slice A_t n_t c_t] 40))).below hb10).below hb11).below hb12).below (Below.refl _ _).drew).below hb13).below hb14).below hb15).below hb16).below hb17).below (Below.refl _ _).drew).below hb18).below hb19).below hb20)).mono ?_
  rintro e w21 ⟨A_p3, n_p3, c_p3, A_p4, n_p4, c_p4, rfl, hb21, l_p3, l_p4, o_p3, o_p4⟩
  clear e3 e4
  go_wp2_with fail
  refine (same5k_any (o_p1.below hb21) o_p3 rfl (by omega)).mono ?_
  rintro e w22 ⟨rfl, hb22⟩
  go_wp2_with fail
  refine (same5k_any ((o_p2.below hb21).below hb22) (o_p4.below hb22) rfl (by omega)).mono ?_
  rintro e w23 ⟨rfl, hb23⟩
  go_wp2
  go_ret
  exact ⟨rfl, (bt (bt (bt (bt (bt (bt (bt (bt (bt (bt (bt (bt (bt (bt (bt (bt (bt (bt (bt (bt (bt HZ.out.1 (below_drewN _ 1)) HU.out.1) hb9) ((Below.refl _ _).alloc (Nat.le_refl _) (.cells #[.bool false, .slice A_s n_s c_s] 40))) ((Below.refl _ _).alloc (Nat.le_refl _) (.cells #[.bool ng, .slice A_t n_t c_t] 40))) hb10) hb11) hb12) (Below.refl _ _).drew) hb13) hb14) hb15) hb16) hb17) (Below.refl _ _).drew) hb18) hb19) hb20) hb21) hb22) hb23)⟩
end Go.Proofs.YtbamhgpadfojfaaGreat
