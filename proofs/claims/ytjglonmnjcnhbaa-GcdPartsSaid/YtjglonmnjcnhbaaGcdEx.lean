/-
  The document's Inverse (surdref05); inverses and Bezout's factors are unique. The plain law of the Chinese remainders: what the rounds keep, whichever way the factor was found. No program here. Walk: gcd.Crt. Walk: the document's Crt (surdref05). GcdExtends: Extended, Inverse, Crt, as the document's.
-/
import Derived.Test.YtjglonmnjcnhbaaExtX
import Derived.Test.YtjglonmnjcnhbaaGcdCR
import Derived.Test.YtjglonmnjcnhbaaGcdDv
namespace Go.Proofs.Ytjglonmnjcnhbaa
open Go.RowKit
set_option linter.unusedVariables false

theorem ext_cong {a m x y : Nat} {neg : Bool} (h : ExtOk a m x y neg) (hg : Nat.gcd a m = 1) : Cong m a 1 x := by
  obtain ⟨h1, _, _⟩ := h
  rw [hg] at h1
  have e : (x : Int) * (a : Int) = ((x * a : Nat) : Int) := (Int.natCast_mul x a).symm
  have e2 : (m : Int) * (y : Int) = ((y * m : Nat) : Int) := by rw [Int.natCast_mul, Int.mul_comm]
  rcases h1 with ⟨_, _, h1⟩ | ⟨_, h1⟩
  · refine ⟨-(y : Int), ?_⟩
    rw [e, Int.mul_neg, e2]; omega
  · refine ⟨(y : Int), ?_⟩
    rw [e, e2]; omega
theorem inv_uniq {a m x x' : Nat} (h : Cong m a 1 x) (h' : Cong m a 1 x') (hx : x < m) (hx' : x' < m) : x = x' := by
  have h1 : (m : Int) ∣ ((x' : Int) - (x : Int)) * (a : Int) := by
    have := Int.dvd_sub h h'
    have e : ((1 : Nat) : Int) - (x : Int) * (a : Int) - (((1 : Nat) : Int) - (x' : Int) * (a : Int)) = ((x' : Int) - (x : Int)) * (a : Int) := by rw [Int.sub_mul]; omega
    rwa [e] at this
  have h2 : (m : Int) ∣ ((x' : Int) - (x : Int)) := by
    have e : ((x' : Int) - (x : Int)) = ((x' : Int) - (x : Int)) * (((1 : Nat) : Int) - (x : Int) * (a : Int)) + (x : Int) * (((x' : Int) - (x : Int)) * (a : Int)) := by
      rw [Int.mul_sub, Int.mul_left_comm (x : Int)]
      show _ = _ * 1 - _ + _
      omega
    rw [e]
    exact Int.dvd_add (Int.dvd_mul_of_dvd_right h) (Int.dvd_mul_of_dvd_right h1)
  have h3 := Int.emod_eq_emod_iff_emod_sub_eq_zero.2 (Int.emod_eq_zero_of_dvd h2)
  rw [Int.emod_eq_of_lt (by omega) (by omega), Int.emod_eq_of_lt (by omega) (by omega)] at h3
  omega
theorem some_exists : ∀ (a : Nat), 0 < a → ∀ b : Nat, ∃ z, SomeOk a b z := by
  intro a
  induction a using Nat.strongRecOn with
  | _ a ih =>
    intro ha b
    rcases Nat.eq_zero_or_pos (b % a) with hr | hr
    · exact ⟨1, some_one hr⟩
    · obtain ⟨y, ⟨k, h1⟩, h2⟩ := ih _ (Nat.mod_lt b ha) hr a
      exact ⟨_, some_step ha hr h1 h2⟩
theorem inv_exists {a m : Nat} (hm : 0 < m) (hg : Nat.gcd a m = 1) : ∃ x, x < m ∧ Cong m a 1 x := by
  rcases Nat.eq_zero_or_pos a with ha | ha
  · subst ha
    rw [Nat.gcd_zero_left] at hg
    subst hg
    exact ⟨0, by omega, Int.one_dvd _⟩
  · obtain ⟨z, hz⟩ := some_exists a ha m
    obtain ⟨k, h1, h2⟩ := ext_law hm hz
    rw [hg, Nat.div_one] at h1 h2
    exact ⟨_, h2, ⟨k, by rw [h1, Int.mul_comm]⟩⟩
theorem ext_int {a b x y : Nat} {neg : Bool} (h : ExtOk a b x y neg) : ∃ Y : Int, (Nat.gcd a b : Int) = (x : Int) * (a : Int) + Y * (b : Int) ∧ y = Y.natAbs ∧ neg = decide (Y < 0) := by
  obtain ⟨h1, _, _⟩ := h
  rcases h1 with ⟨h0, h2, h1⟩ | ⟨h0, h1⟩
  · refine ⟨-(y : Int), ?_, by omega, ?_⟩
    · rw [Int.neg_mul, ← Int.natCast_mul, ← Int.natCast_mul]; omega
    · rw [h0, decide_eq_true (by omega)]
  · refine ⟨(y : Int), ?_, by omega, ?_⟩
    · rw [← Int.natCast_mul, ← Int.natCast_mul]; omega
    · rw [h0, decide_eq_false (by omega)]
theorem ext_uniq {a b x y x' y' : Nat} {n n' : Bool} (h : ExtOk a b x y n) (h' : ExtOk a b x' y' n') : x = x' ∧ y = y' ∧ n = n' := by
  obtain ⟨Y, e1, e2, e3⟩ := ext_int h
  obtain ⟨Y', f1, f2, f3⟩ := ext_int h'
  rcases Nat.eq_zero_or_pos b with hb | hb
  · obtain ⟨g1, g2⟩ := h.2.1 hb
    obtain ⟨k1, k2⟩ := h'.2.1 hb
    have : Y = 0 := by omega
    have : Y' = 0 := by omega
    subst Y Y'
    exact ⟨by rw [g2, k2], by omega, by rw [e3, f3]⟩
  · have hx := h.2.2 hb
    have hx' := h'.2.2 hb
    obtain ⟨d, hd⟩ := Nat.gcd_dvd_left a b
    obtain ⟨p, hp⟩ := Nat.gcd_dvd_right a b
    have hg : 0 < Nat.gcd a b := Nat.gcd_pos_of_pos_right a hb
    have hbp : b / Nat.gcd a b = p := by conv => lhs; arg 1; rw [hp]
                                         exact Nat.mul_div_cancel_left p hg
    rw [hbp] at hx hx'
    generalize Nat.gcd a b = g at *
    have ea : (a : Int) = (g : Int) * (d : Int) := by rw [← Int.natCast_mul, ← hd]
    have eb : (b : Int) = (g : Int) * (p : Int) := by rw [← Int.natCast_mul, ← hp]
    have key : ∀ {x : Nat} {Y : Int}, (g : Int) = (x : Int) * (a : Int) + Y * (b : Int) → Cong p d 1 x := fun {x} {Y} h => by
      refine ⟨Y, ?_⟩
      rw [ea, eb, Int.mul_left_comm, Int.mul_left_comm Y, ← Int.mul_add] at h
      have h2 : (g : Int) * 1 = (g : Int) * ((x : Int) * (d : Int) + Y * (p : Int)) := by omega
      have h3 := Int.eq_of_mul_eq_mul_left (by omega) h2
      rw [Int.mul_comm (p : Int)]
      omega
    have hxx := inv_uniq (key e1) (key f1) hx hx'
    subst hxx
    have hY : Y * (b : Int) = Y' * (b : Int) := by omega
    have hY := Int.eq_of_mul_eq_mul_right (by omega) hY
    subst hY
    exact ⟨rfl, by rw [e2, f2], by rw [e3, f3]⟩
/-- a slice to read, an error's number -/
def GIx (w : World) (xs : List Nat) (er : Int) (L : Nat) (e : Ending) (w' : World) : Prop :=
  ∃ A n c, e = .returned (.tuple #[.slice A n c, .int .i64 er]) ∧ Below w.heap.size w w' ∧ n ≤ L ∧ Rd .u64 w' A n c xs
end Go.Proofs.Ytjglonmnjcnhbaa
namespace Go.Proofs.Ytjglonmnjcnhbaa
open Go.RowKit
set_option linter.unusedVariables false

/-- after i rounds: x is the one answer below l, the moduli's lcm -/
def CrtI (rs ms : List Nat) (i x l : Nat) : Prop :=
  x < l ∧ l = llcm (ms.take i) ∧ (∀ j, j < i → nth ms j ∣ l ∧ x % nth ms j = nth rs j % nth ms j) ∧ ∀ X, (∀ j, j < i → X % nth ms j = nth rs j % nth ms j) → X % l = x
theorem CrtI.start (rs ms : List Nat) : CrtI rs ms 0 0 1 := ⟨by omega, rfl, fun j h => by omega, fun X _ => Nat.mod_one X⟩
theorem CrtI.uniq {rs ms : List Nat} {i x l x' l' : Nat} (h : CrtI rs ms i x l) (h' : CrtI rs ms i x' l') : x = x' ∧ l = l' := by
  have hl : l = l' := by rw [h.2.1, h'.2.1]
  subst hl
  refine ⟨?_, rfl⟩
  have := h'.2.2.2 x fun j hj => (h.2.2.1 j hj).2
  rwa [Nat.mod_eq_of_lt h.1] at this
theorem mod_of_sub {a b m : Nat} (h : (m : Int) ∣ (a : Int) - (b : Int)) : a % m = b % m := by
  have h3 := Int.emod_eq_emod_iff_emod_sub_eq_zero.2 (Int.emod_eq_zero_of_dvd h)
  rw [← Int.natCast_emod, ← Int.natCast_emod] at h3
  exact Int.ofNat.inj h3
theorem sub_of_mod {a b m : Nat} (h : a % m = b % m) : (m : Int) ∣ (a : Int) - (b : Int) := by
  refine Int.dvd_of_emod_eq_zero (Int.emod_eq_emod_iff_emod_sub_eq_zero.1 ?_)
  rw [← Int.natCast_emod, ← Int.natCast_emod, h]
theorem CrtI.step {rs ms : List Nat} {i x l T : Nat} (h : CrtI rs ms i x l) (hi : i < ms.length) (hn : 0 < nth ms i) (hT : (x + l * T) % nth ms i = nth rs i % nth ms i) :
    CrtI rs ms (i + 1) ((x + l * T) % Nat.lcm l (nth ms i)) (Nat.lcm l (nth ms i)) := by
  obtain ⟨h1, h2, h3, h4⟩ := h
  have hl0 : 0 < Nat.lcm l (nth ms i) := Nat.lcm_pos (by omega) hn
  have d1 : l ∣ Nat.lcm l (nth ms i) := Nat.dvd_lcm_left _ _
  have d2 : nth ms i ∣ Nat.lcm l (nth ms i) := Nat.dvd_lcm_right _ _
  refine ⟨Nat.mod_lt _ hl0, ?_, fun j hj => ?_, fun X hX => ?_⟩
  · rw [llcm_take hi, ← h2]
  · rcases (show j < i ∨ j = i by omega) with hj | rfl
    · obtain ⟨e1, e2⟩ := h3 j hj
      refine ⟨Nat.dvd_trans e1 d1, ?_⟩
      rw [Nat.mod_mod_of_dvd _ (Nat.dvd_trans e1 d1), Nat.add_mod, Nat.mod_eq_zero_of_dvd (Nat.dvd_trans e1 (Nat.dvd_mul_right l T)), Nat.add_zero, Nat.mod_mod, e2]
    · exact ⟨d2, by rw [Nat.mod_mod_of_dvd _ d2, hT]⟩
  · have e1 := h4 X fun j hj => hX j (by omega)
    have e2 := hX i (by omega)
    have f1 : (l : Int) ∣ (X : Int) - ((x + l * T : Nat) : Int) := sub_of_mod (by rw [e1, Nat.add_mul_mod_self_left, Nat.mod_eq_of_lt h1])
    have f2 : (nth ms i : Int) ∣ (X : Int) - ((x + l * T : Nat) : Int) := sub_of_mod (by rw [e2, hT])
    refine mod_of_sub ?_
    have g1 := Int.natAbs_dvd_natAbs.2 f1
    have g2 := Int.natAbs_dvd_natAbs.2 f2
    rw [Int.natAbs_natCast] at g1 g2
    exact Int.natAbs_dvd_natAbs.1 (by rw [Int.natAbs_natCast]; exact Nat.lcm_dvd g1 g2)
/-- what is still lacking modulo n -/
def crtD (r x n : Nat) : Nat := (((r : Int) - (x : Int)) % (n : Int)).toNat
theorem crtD_spec {r x n : Nat} (hn : 0 < n) : (n : Int) ∣ (r : Int) - (x : Int) - (crtD r x n : Int) := by
  have h0 : 0 ≤ ((r : Int) - (x : Int)) % (n : Int) := Int.emod_nonneg _ (by omega)
  rw [crtD, Int.toNat_of_nonneg h0]
  exact ⟨((r : Int) - (x : Int)) / (n : Int), by have := Int.mul_ediv_add_emod ((r : Int) - (x : Int)) (n : Int); omega⟩
theorem crtD_lt {r x n : Nat} (hn : 0 < n) : crtD r x n < n := by
  have h0 : 0 ≤ ((r : Int) - (x : Int)) % (n : Int) := Int.emod_nonneg _ (by omega)
  have h1 : ((r : Int) - (x : Int)) % (n : Int) < (n : Int) := Int.emod_lt_of_pos _ (by omega)
  rw [crtD]; omega
theorem crtD_nat {r x n : Nat} (hn : 0 < n) : (r % n + (n - x % n)) % n = crtD r x n := by
  have hx := Nat.mod_lt x hn
  have h1 : (n : Int) ∣ ((r % n + (n - x % n) : Nat) : Int) - (crtD r x n : Int) := by
    have e : ((r % n + (n - x % n) : Nat) : Int) - (crtD r x n : Int) = ((r : Int) - (x : Int) - (crtD r x n : Int)) + (n : Int) + (((r % n : Nat) : Int) - (r : Int)) - (((x % n : Nat) : Int) - (x : Int)) := by omega
    rw [e]
    exact Int.dvd_sub (Int.dvd_add (Int.dvd_add (crtD_spec hn) (Int.dvd_refl _)) (cong_mod n r)) (cong_mod n x)
  have := mod_of_sub h1
  rwa [Nat.mod_eq_of_lt (crtD_lt hn)] at this
theorem crt_T {r x l n s T : Nat} (hn : 0 < n) (hd : crtD r x n % Nat.gcd l n = 0) (hs : Cong n l (Nat.gcd l n) s) (hT : ((n / Nat.gcd l n : Nat) : Int) ∣ (T : Int) - ((crtD r x n / Nat.gcd l n : Nat) : Int) * (s : Int)) :
    (x + l * T) % n = r % n := by
  have hD := crtD_spec (r := r) (x := x) hn
  generalize crtD r x n = d at *
  have hg : 0 < Nat.gcd l n := Nat.gcd_pos_of_pos_right l hn
  obtain ⟨l', hl⟩ := Nat.gcd_dvd_left l n
  obtain ⟨p, hp⟩ := Nat.gcd_dvd_right l n
  have hnp : n / Nat.gcd l n = p := by conv => lhs; arg 1; rw [hp]
                                       exact Nat.mul_div_cancel_left p hg
  rw [hnp] at hT
  have hdk : d = Nat.gcd l n * (d / Nat.gcd l n) := by have := Nat.div_add_mod d (Nat.gcd l n); omega
  generalize d / Nat.gcd l n = k at *
  generalize Nat.gcd l n = g at *
  have el : (l : Int) = (g : Int) * (l' : Int) := by rw [← Int.natCast_mul, ← hl]
  have en : (n : Int) = (g : Int) * (p : Int) := by rw [← Int.natCast_mul, ← hp]
  have ed : (d : Int) = (g : Int) * (k : Int) := by rw [← Int.natCast_mul, ← hdk]
  obtain ⟨c, hc⟩ := hT
  refine mod_of_sub ?_
  have f1 : (n : Int) ∣ (l : Int) * ((T : Int) - (k : Int) * (s : Int)) := ⟨(l' : Int) * c, by
    rw [hc, el, en, Int.mul_assoc, Int.mul_assoc, Int.mul_left_comm (l' : Int)]⟩
  have f2 : (n : Int) ∣ (k : Int) * ((g : Int) - (s : Int) * (l : Int)) := Int.dvd_mul_of_dvd_right hs
  have e : ((x + l * T : Nat) : Int) - (r : Int) = (l : Int) * ((T : Int) - (k : Int) * (s : Int)) - (k : Int) * ((g : Int) - (s : Int) * (l : Int)) - ((r : Int) - (x : Int) - (d : Int)) := by
    rw [Int.natCast_add, Int.natCast_mul, Int.mul_sub, Int.mul_sub, ed, Int.mul_comm (k : Int) (g : Int), Int.mul_left_comm (l : Int), Int.mul_comm (l : Int) (s : Int)]
    omega
  rw [e]
  exact Int.dvd_sub (Int.dvd_sub f1 f2) hD
theorem CrtI.fail {rs ms : List Nat} {i x l : Nat} (h : CrtI rs ms i x l) (hn : 0 < nth ms i) (hd : crtD (nth rs i) x (nth ms i) % Nat.gcd l (nth ms i) ≠ 0) :
    ¬ ∃ X, ∀ j, j < i + 1 → X % nth ms j = nth rs j % nth ms j := by
  rintro ⟨X, hX⟩
  have e1 := h.2.2.2 X fun j hj => hX j (by omega)
  have e2 := hX i (by omega)
  apply hd
  have f1 : (l : Int) ∣ (X : Int) - (x : Int) := sub_of_mod (by rw [e1, Nat.mod_eq_of_lt h.1])
  have f2 : (nth ms i : Int) ∣ (X : Int) - (nth rs i : Int) := sub_of_mod e2
  have f3 := crtD_spec (r := nth rs i) (x := x) hn
  have g1 : (Nat.gcd l (nth ms i) : Int) ∣ (l : Int) := Int.natCast_dvd_natCast.2 (Nat.gcd_dvd_left _ _)
  have g2 : (Nat.gcd l (nth ms i) : Int) ∣ (nth ms i : Int) := Int.natCast_dvd_natCast.2 (Nat.gcd_dvd_right _ _)
  have g3 : (Nat.gcd l (nth ms i) : Int) ∣ (crtD (nth rs i) x (nth ms i) : Int) := by
    have e : (crtD (nth rs i) x (nth ms i) : Int) = ((X : Int) - (x : Int)) - ((X : Int) - (nth rs i : Int)) - ((nth rs i : Int) - (x : Int) - (crtD (nth rs i) x (nth ms i) : Int)) := by omega
    rw [e]
    exact Int.dvd_sub (Int.dvd_sub (Int.dvd_trans g1 f1) (Int.dvd_trans g2 f2)) (Int.dvd_trans g2 f3)
  exact Nat.mod_eq_zero_of_dvd (Int.natCast_dvd_natCast.1 g3)
theorem CrtI.small {rs ms : List Nat} {i x l t : Nat} (h : CrtI rs ms i x l) (ht : t < nth ms i / Nat.gcd l (nth ms i)) : x + l * t < Nat.lcm l (nth ms i) := by
  have e : Nat.lcm l (nth ms i) = l * (nth ms i / Nat.gcd l (nth ms i)) := by
    rw [Nat.lcm, Nat.mul_div_assoc _ (Nat.gcd_dvd_right _ _)]
  rw [e]
  have h2 : l * (t + 1) ≤ l * (nth ms i / Nat.gcd l (nth ms i)) := Nat.mul_le_mul_left _ ht
  rw [Nat.mul_add] at h2
  have := h.1
  omega
theorem CrtI.lt_W {rs ms : List Nat} {i x l : Nat} (h : CrtI rs ms i x l) (hm : ∀ j, j < i → nth ms j < W ^ 30) (hi : i ≤ ms.length) : l < W ^ (30 * i + 1) := by
  rw [h.2.1]
  clear h
  induction i with
  | zero => simpa [llcm] using W_gt
  | succ i ih =>
    rw [llcm_take (by omega)]
    have h1 := ih (fun j hj => hm j (by omega)) (by omega)
    have h2 := hm i (by omega)
    have h3 : Nat.lcm (llcm (ms.take i)) (nth ms i) ≤ llcm (ms.take i) * nth ms i := Nat.div_le_self _ _
    have h4 : llcm (ms.take i) * nth ms i ≤ llcm (ms.take i) * W ^ 30 := Nat.mul_le_mul_left _ (Nat.le_of_lt h2)
    have h5 : llcm (ms.take i) * W ^ 30 < W ^ (30 * i + 1) * W ^ 30 := Nat.mul_lt_mul_of_pos_right h1 (Nat.pow_pos W_pos)
    rw [← Nat.pow_add] at h5
    have e : 30 * (i + 1) + 1 = 30 * i + 1 + 30 := by omega
    rw [e]
    omega
end Go.Proofs.Ytjglonmnjcnhbaa
namespace Go.Proofs.Ytjglonmnjcnhbaa
open Go.RowKit
set_option linter.unusedVariables false

/-- what both Crt's give: no moduli of 0, an answer, or none -/
def CrS (w w' : World) (rs ms : List Nat) (n : Nat) (A1 : Option Addr) (n1 c1 : Nat) (A2 : Option Addr) (n2 c2 : Nat) (er : Int) : Prop :=
  ((A1 = none ∧ n1 = 0 ∧ c1 = 0) ∧ (A2 = none ∧ n2 = 0 ∧ c2 = 0) ∧ (er = 1 ∧ (∃ i, i < n ∧ nth ms i = 0) ∨ er = 4 ∧ (∀ i, i < n → 0 < nth ms i) ∧ ¬ ∃ X, ∀ j, j < n → X % nth ms j = nth rs j % nth ms j)) ∨
  (er = 0 ∧ (∀ i, i < n → 0 < nth ms i) ∧ ∃ x l, CrtI rs ms n x l ∧ Own .u64 54 w.heap.size w' A1 n1 c1 (dg W x) ∧ Own .u64 54 w.heap.size w' A2 n2 c2 (dg W l))
def GCr (w : World) (rs ms : List Nat) (n L : Nat) (e : Ending) (w' : World) : Prop :=
  ∃ A1 n1 c1 A2 n2 c2 er, e = .returned (.tuple #[.slice A1 n1 c1, .slice A2 n2 c2, .int .i64 er]) ∧ Below w.heap.size w w' ∧ n1 ≤ L ∧ n2 ≤ L ∧ Hid (CrS w w' rs ms n A1 n1 c1 A2 n2 c2 er)
theorem CrtI.nofail {rs ms : List Nat} {i n : Nat} (h : ¬ ∃ X, ∀ j, j < i + 1 → X % nth ms j = nth rs j % nth ms j) (hi : i < n) : ¬ ∃ X, ∀ j, j < n → X % nth ms j = nth rs j % nth ms j :=
  fun ⟨X, hX⟩ => h ⟨X, fun j hj => hX j (by omega)⟩
theorem crt_prog {rs ms : List Nat} {i x l s : Nat} (h : CrtI rs ms i x l) (hi : i < ms.length) (hn : 0 < nth ms i) (hd : crtD (nth rs i) x (nth ms i) % Nat.gcd l (nth ms i) = 0) (hs : Cong (nth ms i) l (Nat.gcd l (nth ms i)) s) (hp : 0 < nth ms i / Nat.gcd l (nth ms i)) :
    CrtI rs ms (i + 1) (x + l * (crtD (nth rs i) x (nth ms i) / Nat.gcd l (nth ms i) * s % (nth ms i / Nat.gcd l (nth ms i)))) (Nat.lcm l (nth ms i)) := by
  have hT := crt_T (r := nth rs i) (x := x) (T := crtD (nth rs i) x (nth ms i) / Nat.gcd l (nth ms i) * s % (nth ms i / Nat.gcd l (nth ms i))) hn hd hs (by rw [← Int.natCast_mul]; exact cong_mod _ _)
  have h1 := h.step hi hn hT
  rwa [Nat.mod_eq_of_lt (h.small (Nat.mod_lt _ hp))] at h1
theorem CrtI.lens {rs ms : List Nat} {i x l M : Nat} (h : CrtI rs ms i x l) (hm : ∀ j, j < i → nth ms j < W ^ 30) (hi : i ≤ ms.length) (h20 : 30 * i + 1 ≤ M) : x < W ^ M ∧ l < W ^ M := by
  have h1 := h.lt_W hm hi
  have h2 : W ^ (30 * i + 1) ≤ W ^ M := Nat.pow_le_pow_right W_pos h20
  have := h.1
  exact ⟨by omega, by omega⟩
end Go.Proofs.Ytjglonmnjcnhbaa
namespace Go.Proofs.Ytjglonmnjcnhbaa
open Go.RowKit
set_option linter.unusedVariables false

theorem ext_congG {a m x y : Nat} {neg : Bool} (h : ExtOk a m x y neg) : Cong m a (Nat.gcd a m) x := by
  obtain ⟨Y, e, _, _⟩ := ext_int h
  exact ⟨Y, by rw [e, Int.mul_comm (m : Int)]; omega⟩
theorem crt_ref {rs ms : List Nat} {i x l s : Nat} (h : CrtI rs ms i x l) (hi : i < ms.length) (hn : 0 < nth ms i) (hd : crtD (nth rs i) x (nth ms i) % Nat.gcd l (nth ms i) = 0) (hs : Cong (nth ms i) l (Nat.gcd l (nth ms i)) s) :
    CrtI rs ms (i + 1) ((sg false x + sg false (((sg false s * sg false (crtD (nth rs i) x (nth ms i) / Nat.gcd l (nth ms i))) % (nth ms i : Int)).toNat) * sg false l) % (Nat.lcm l (nth ms i) : Int)).toNat (Nat.lcm l (nth ms i)) := by
  have e1 : ((sg false s * sg false (crtD (nth rs i) x (nth ms i) / Nat.gcd l (nth ms i))) % (nth ms i : Int)).toNat = s * (crtD (nth rs i) x (nth ms i) / Nat.gcd l (nth ms i)) % nth ms i := by
    rw [sg_false, sg_false, ← Int.natCast_mul, mod_pos]
  rw [e1]
  have hT := crt_T (r := nth rs i) (x := x) (T := s * (crtD (nth rs i) x (nth ms i) / Nat.gcd l (nth ms i)) % nth ms i) hn hd hs (by
    have h1 := cong_mod (nth ms i) (s * (crtD (nth rs i) x (nth ms i) / Nat.gcd l (nth ms i)))
    rw [Int.natCast_mul s, Int.mul_comm (s : Int)] at h1
    refine Int.dvd_trans (Int.natCast_dvd_natCast.2 ?_) h1
    exact ⟨_, (Nat.div_mul_cancel (Nat.gcd_dvd_right l (nth ms i))).symm⟩)
  have h1 := h.step hi hn hT
  generalize s * (crtD (nth rs i) x (nth ms i) / Nat.gcd l (nth ms i)) % nth ms i = T at *
  have e2 : ((sg false x + sg false T * sg false l) % (Nat.lcm l (nth ms i) : Int)).toNat = (x + l * T) % Nat.lcm l (nth ms i) := by
    rw [sg_false, sg_false, sg_false, ← Int.natCast_mul, ← Int.natCast_add, mod_pos, Nat.mul_comm T]
  rw [e2]; exact h1
end Go.Proofs.Ytjglonmnjcnhbaa
namespace Go.Proofs.Ytjglonmnjcnhbaa
open Go.RowKit
set_option linter.unusedVariables false

theorem crt_exists {rs ms : List Nat} {X : Nat} : ∀ (i : Nat), i ≤ ms.length → (∀ j, j < i → 0 < nth ms j) → (∀ j, j < i → X % nth ms j = nth rs j % nth ms j) → ∃ x l, CrtI rs ms i x l
  | 0, _, _, _ => ⟨0, 1, CrtI.start rs ms⟩
  | i + 1, hi, hp, hX => by
    obtain ⟨x, l, h⟩ := crt_exists i (by omega) (fun j hj => hp j (by omega)) (fun j hj => hX j (by omega))
    have e := h.2.2.2 X fun j hj => hX j (by omega)
    refine ⟨_, _, h.step (T := X / l) (by omega) (hp i (by omega)) ?_⟩
    have e2 : x + l * (X / l) = X := by rw [← e]; exact Nat.mod_add_div X l
    rw [e2]
    exact hX i (by omega)
def GC3 (w : World) (xs ys : List Nat) (er : Int) (L : Nat) (e : Ending) (w' : World) : Prop :=
  ∃ A n c A2 n2 c2, e = .returned (.tuple #[.slice A n c, .slice A2 n2 c2, .int .i64 er]) ∧ Below w.heap.size w w' ∧ n ≤ L ∧ n2 ≤ L ∧ Rd .u64 w' A n c xs ∧ Rd .u64 w' A2 n2 c2 ys
end Go.Proofs.Ytjglonmnjcnhbaa
