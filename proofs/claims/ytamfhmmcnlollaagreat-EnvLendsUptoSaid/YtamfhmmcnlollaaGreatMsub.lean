/-
  limb.MulSub.
-/
import Derived.Test.YtamfhmmcnlollaaGreatLimbD
import Derived.Test.YtamfhmmcnlollaaGreatDivOne
namespace Go.Proofs.YtamfhmmcnlollaaGreat
open Go.RowKit
set_option linter.unusedVariables false

/-- what is borrowed for x - p above the base N -/
def msb (x p N : Nat) : Nat := (p - x + N - 1) / N
theorem msb_uniq {x p N o c : Nat} (h : x + N * c = o + p) (ho : o < N) : c = msb x p N ∧ o = x + N * msb x p N - p := by
  have e : msb x p N = c := by
    unfold msb
    by_cases h0 : c = 0
    · subst h0
      have : p - x = 0 := by omega
      rw [this]
      exact Nat.div_eq_of_lt (by omega)
    · obtain ⟨d, rfl⟩ : ∃ d, c = d + 1 := ⟨c - 1, by omega⟩
      rw [Nat.mul_succ] at h
      have e : p - x + N - 1 = (N - 1 - o) + N * (d + 1) := by rw [Nat.mul_succ]; omega
      rw [e, Nat.add_mul_div_left _ _ (by omega), Nat.div_eq_of_lt (by omega), Nat.zero_add]
  rw [e]
  exact ⟨rfl, by omega⟩

def MsbI (xs ys : List Nat) (n y k cn : Nat) (outs : List Nat) : Prop :=
  k ≤ n ∧ cn < W ∧ All W outs ∧ outs.length = n ∧ (∀ j, k ≤ j → nth outs j = nth xs j) ∧ val W (xs.take k) + W ^ k * cn = val W (outs.take k) + val W (ys.take k) * y
/-- the numbers of one round -/
theorem msb_round {xk yk y cn : Nat} (hx : xk < W) (hyk : yk < W) (hy : y < W) (hc : cn < W) :
    hi (yk * y + cn + 0) + borrows xk (lo (yk * y + cn + 0)) 0 < W ∧ subw xk (lo (yk * y + cn + 0)) 0 < W ∧
      xk + W * (hi (yk * y + cn + 0) + borrows xk (lo (yk * y + cn + 0)) 0) = subw xk (lo (yk * y + cn + 0)) 0 + (yk * y + cn) := by
  have e1 := lo_hi (yk * y + cn + 0)
  have e2 := sub_words_eq xk (lo (yk * y + cn + 0)) 0 hx (lo_lt _) W_pos
  have e3 : yk * y ≤ 18446744073709551615 * 18446744073709551615 := Nat.mul_le_mul (by rw [W_eq] at *; omega) (by rw [W_eq] at *; omega)
  rw [Nat.add_zero] at *
  generalize yk * y = p at *
  generalize lo (p + cn) = l at *
  generalize hi (p + cn) = h at *
  generalize borrows xk l 0 = b at *
  generalize subw xk l 0 = s at *
  rw [W_eq] at *
  omega
theorem MsbI.step {xs ys outs : List Nat} {n y k cn : Nat} (h : MsbI xs ys n y k cn outs) (hx : All W xs) (hys : All W ys) (hy : y < W) (hk : k < n) :
    MsbI xs ys n y (k + 1) (hi (nth ys k * y + cn + 0) + borrows (nth outs k) (lo (nth ys k * y + cn + 0)) 0) (outs.set k (subw (nth outs k) (lo (nth ys k * y + cn + 0)) 0)) := by
  obtain ⟨h1, h2, h3, h4, h5, h6⟩ := h
  rw [h5 k (Nat.le_refl _)]
  obtain ⟨r1, r2, r3⟩ := msb_round (hx.nth W_pos k) (hys.nth W_pos k) hy h2
  refine ⟨hk, r1, h3.set r2 k, by simpa using h4, fun j hj => ?_, ?_⟩
  · rw [nth_set_ne (by omega)]; exact h5 j (by omega)
  · rw [val_set_take (by omega), val_take_succ' xs k, val_take_succ' ys k, Nat.pow_succ, Nat.add_mul]
    generalize hi (nth ys k * y + cn + 0) + borrows (nth xs k) (lo (nth ys k * y + cn + 0)) 0 = c at *
    generalize subw (nth xs k) (lo (nth ys k * y + cn + 0)) 0 = s at *
    have e4 : W ^ k * nth xs k + W ^ k * W * c = W ^ k * s + (W ^ k * (nth ys k * y) + W ^ k * cn) := by
      rw [Nat.mul_assoc, ← Nat.mul_add, r3, Nat.mul_add, Nat.mul_add]
    have e5 : W ^ k * nth ys k * y = W ^ k * (nth ys k * y) := Nat.mul_assoc _ _ _
    omega
theorem MsbI.done {xs ys outs : List Nat} {n y cn : Nat} (h : MsbI xs ys n y n cn outs) (hn : xs.length = n) (hm : ys.length ≤ n) :
    cn = msb (val W xs) (val W ys * y) (W ^ n) ∧ outs = wds W n (val W xs + W ^ n * msb (val W xs) (val W ys * y) (W ^ n) - val W ys * y) := by
  obtain ⟨h1, h2, h3, h4, h5, h6⟩ := h
  rw [val_take_ge (by omega), val_take_ge (by omega), val_take_ge (by omega)] at h6
  have l := val_lt h3
  rw [h4] at l
  obtain ⟨e1, e2⟩ := msb_uniq h6 l
  refine ⟨e1, eq_wds h3 h4 ?_⟩
  rw [← e2, Nat.mod_eq_of_lt l]
set_option maxHeartbeats 1000000 in
theorem lmulSub_any {A A2 : Option Addr} {n c m c2 y : Nat} {y' : Int} {xs ys : List Nat} {w : World} (h : Rd .u64 w A n c xs) (h' : Rd .u64 w A2 m c2 ys) (hx : All W xs) (hys : All W ys) (ey : y' = (y : Int)) (hy : y < W) (hm : m ≤ n) (hn : n ≤ 1099511627776) :
    Calls Tryz.prog 172 #[.slice A n c, .slice A2 m c2, .int .u64 y'] w (Gives3 .u64 41 w (wds W n (val W xs + W ^ n * msb (val W xs) (val W ys * y) (W ^ n) - val W ys * y)) (.int .u64 ((msb (val W xs) (val W ys * y) (W ^ n) : Nat) : Int)) (.int .i64 0)) := by
  subst ey
  have H := Lib.hid h
  have H2 := Lib.hid h'
  have HX := Lib.hid hx
  have HYS := Lib.hid hys
  have HY := Lib.hid hy
  have HN := Lib.hid hn
  have HM : Hid (m ≤ 1099511627776) := by show _ ≤ _; omega
  have q1 : decide (n < m) = false := by simpa using hm
  have HMN := Lib.hid hm
  clear h h' hx hys hy
  go_enter Tryz.func172, Tryz.ntmps172
  go_wp2_with (go_at_call 143; refine (clone_any A n c xs w H.out HN.out).mono ?_; rintro e w1 ⟨A1, n1, c1, rfl, ho1, hb1⟩)
  obtain rfl : n1 = n := by rw [← ho1.len, H.out.len]
  have HO : Hid (Own .u64 41 w.heap.size w1 A1 n1 c1 xs ∧ Below w.heap.size w w1) := ⟨ho1, hb1⟩
  clear ho1 hb1
  go_loopw [10, 25] (fun cv i wr => ∃ (k cn : Nat) (outs : List Nat), Hid (MsbI xs ys n1 y k cn outs ∧ Own .u64 41 w.heap.size wr A1 n1 c1 outs ∧ Below w.heap.size w wr) ∧ cv = .int .u64 cn ∧ i = .int .i64 k) (fun _ i _ => n1 - (intOf i).toNat)
  case atStart => exact ⟨0, 0, xs, ⟨⟨Nat.zero_le _, W_pos, HX.out, H.out.len, fun _ _ => rfl, by simp [val]⟩, HO.out.1, HO.out.2⟩, rfl, rfl⟩
  case round =>
    obtain ⟨k, cn, outs, hI, rfl, rfl⟩ := hrel
    have hk : k ≤ n1 := hI.out.1.1
    by_cases hlt : k < n1
    · obtain ⟨g, hg, hgB, hgs⟩ := hI.out.2.1.form (by omega)
      subst hg
      have hcell := hI.out.2.1.cell hlt
      have hfr := hI.out.2.1.frozen (i := k)
      have R2 := Lib.hid (H2.out.below hI.out.2.2)
      have B1 : Hid (nth outs k < W) := hI.out.1.2.2.1.nth W_pos k
      have B2 := Lib.hid (HYS.out.nth W_pos k)
      have B3 := Lib.hid hI.out.1.2.1
      have HS := Lib.hid (hI.out.1.step HX.out HYS.out HY.out hlt)
      have HSB := Lib.hid HS.out.2.1
      have C1 := Lib.hid (mulW_any (nth ys k) y cn 0 wr B2.out HY.out B3.out W_pos rfl rfl rfl rfl)
      have C2 := Lib.hid (subW_any (nth outs k) (lo (nth ys k * y + cn + 0)) 0 wr B1.out (lo_lt _) W_pos rfl rfl rfl)
      generalize lo (nth ys k * y + cn + 0) = l at *
      generalize hi (nth ys k * y + cn + 0) = h at *
      generalize borrows (nth outs k) l 0 = bo at *
      generalize subw (nth outs k) l 0 = su at *
      have s1 := lay (show IntKind.u64.wrap ((h : Int) + (bo : Int)) = (h : Int) + (bo : Int) from by rw [addN, wrapN _ (by have := HSB.out; rw [W_eq] at this; exact this)])
      go_wp2_with fail
      refine (at_any A2 m c2 k ys wr R2.out rfl HM.out).mono ?_
      rintro e w' ⟨rfl, rfl⟩
      go_wp2_with fail
      refine C1.out.mono ?_
      rintro e w' ⟨rfl, rfl⟩
      go_wp2_with fail
      refine C2.out.mono ?_
      rintro e w' ⟨rfl, rfl⟩
      go_wp2
      go_roundw
      case rel => exact ⟨k + 1, _, _, ⟨HS.out, hI.out.2.1.stored, hI.out.2.2.setCell hgB _⟩, by go_num, by go_num⟩
      case measure => simp [intOf]; omega
    · obtain rfl : k = n1 := by omega
      go_wp2
      go_ret3
      obtain ⟨e1, e2⟩ := hI.out.1.done H.out.len (by rw [H2.out.len]; exact HMN.out)
      refine ⟨_, _, _, ?_, by rw [← e2]; exact hI.out.2.1, hI.out.2.2⟩
      rw [← e1]
      rfl
theorem msb_le {x p N : Nat} (hN : 0 < N) (h : p ≤ x) : msb x p N = 0 := by
  unfold msb
  have : p - x = 0 := by omega
  rw [this]
  exact Nat.div_eq_of_lt (by omega)
theorem msb_q {x p N : Nat} (hN : 0 < N) (h : (p - x) % N = 0) : msb x p N = (p - x) / N := by
  unfold msb
  have := Nat.div_add_mod (p - x) N
  rw [h, Nat.add_zero] at this
  have e2 : p - x + N - 1 = N * ((p - x) / N) + (N - 1) := by omega
  rw [e2, Nat.mul_add_div hN, Nat.div_eq_of_lt (show N - 1 < N by omega), Nat.add_zero]
theorem msb_q1 {x p N : Nat} (hN : 0 < N) (h : 0 < (p - x) % N) : msb x p N = (p - x) / N + 1 := by
  unfold msb
  have e := Nat.div_add_mod (p - x) N
  have l := Nat.mod_lt (p - x) hN
  generalize (p - x) % N = r at *
  generalize (p - x) / N = q at *
  rw [← e]
  have : N * q + r + N - 1 = N * (q + 1) + (r - 1) := by rw [Nat.mul_succ]; omega
  rw [this, Nat.mul_add_div hN, Nat.div_eq_of_lt (by omega), Nat.add_zero]
theorem msb_ok {x p N : Nat} (hN : 0 < N) : p ≤ x + N * msb x p N := by
  by_cases h : p ≤ x
  · omega
  · have e := Nat.div_add_mod (p - x) N
    rcases Nat.eq_zero_or_pos ((p - x) % N) with h0 | h0
    · rw [msb_q hN h0]; omega
    · rw [msb_q1 hN h0, Nat.mul_succ]
      have := Nat.mod_lt (p - x) hN
      omega
theorem msb_lt {x z y n m : Nat} (hz : z < W ^ m) (hy : y < W) (hm : m ≤ n) : msb x (z * y) (W ^ n) < W := by
  unfold msb
  have h1 := mad_lt (n := n) (Nat.lt_of_lt_of_le hz (Nat.pow_le_pow_right W_pos hm)) hy W_pos
  have hp := Nat.pow_pos (n := n) W_pos
  refine Nat.div_lt_of_lt_mul ?_
  have h2 : z * y ≤ W ^ n * (W - 1) := by
    have a : z * y ≤ W ^ n * y := Nat.mul_le_mul_right _ (Nat.le_of_lt (Nat.lt_of_lt_of_le hz (Nat.pow_le_pow_right W_pos hm)))
    have b : W ^ n * y ≤ W ^ n * (W - 1) := Nat.mul_le_mul_left _ (by omega)
    omega
  have h3 : W ^ n * (W - 1) + W ^ n = W ^ n * W := by
    rw [← Nat.mul_succ]
    rfl
  omega

end Go.Proofs.YtamfhmmcnlollaaGreat
