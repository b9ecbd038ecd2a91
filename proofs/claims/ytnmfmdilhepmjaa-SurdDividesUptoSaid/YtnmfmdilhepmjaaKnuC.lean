/-
  Algorithm D in numbers: the guess out of the digits in the lists, the normalizing shift, what the round leaves. No program here.
-/
import Derived.Test.YtnmfmdilhepmjaaKnuB
import Derived.Test.YtnmfmdilhepmjaaBitsB
namespace Go.Proofs.Ytnmfmdilhepmjaa
set_option linter.unusedVariables false

theorem dg_len_eq {V n : Nat} (hn : 0 < n) (h1 : W ^ (n - 1) ≤ V) (h2 : V < W ^ n) : (dg W V).length = n := by
  have a := dg_len W_gt h2
  have b := val_lt (dg_all W_gt V)
  rw [dg_val W_gt] at b
  have : W ^ (n - 1) < W ^ (dg W V).length := by omega
  have := (Nat.pow_lt_pow_iff_right W_gt).1 this
  omega
theorem top_pos {vs : List Nat} {n : Nat} (hv : All W vs) (hl : vs.length = n) (hn : 0 < n) (h : W ^ (n - 1) ≤ val W vs) : 0 < nth vs (n - 1) := by
  rcases Nat.eq_zero_or_pos (nth vs (n - 1)) with h0 | h0
  · exfalso
    have e := val_take_succ' (b := W) vs (n - 1)
    rw [h0, Nat.mul_zero, Nat.add_zero, show n - 1 + 1 = n by omega, List.take_of_length_le (by omega)] at e
    have := val_lt (hv.take (n - 1))
    rw [List.length_take, Nat.min_eq_left (by omega)] at this
    omega
  · exact h0
theorem low_lt {xs : List Nat} {k : Nat} (h : All W xs) (hk : k ≤ xs.length) : val W (xs.take k) < W ^ k := by
  have := val_lt (h.take k)
  rwa [List.length_take, Nat.min_eq_left hk] at this
theorem topU_parts {us : List Nat} {j n : Nat} (ha : All W us) (h2 : 2 ≤ n) (hl : j + n < us.length) :
    ∃ ul, topU us j n = ((nth us (j + n) * W + nth us (j + n - 1)) * W + nth us (j + n - 2)) * W ^ (n - 2) + ul ∧ ul < W ^ (n - 2) := by
  have hml : ((us.drop j).take n).length = n := by rw [List.length_take, List.length_drop]; omega
  obtain ⟨e, _⟩ := val_top2 hml h2
  have e1 : nth ((us.drop j).take n) (n - 1) = nth us (j + n - 1) := by rw [nth_take_lt (by omega), nth_drop_add]; congr 1; omega
  have e2 : nth ((us.drop j).take n) (n - 2) = nth us (j + n - 2) := by rw [nth_take_lt (by omega), nth_drop_add]; congr 1; omega
  have hlow := low_lt (k := n - 2) ((ha.drop j).take n) (by omega)
  refine ⟨_, ?_, hlow⟩
  rw [topU, e, e1, e2]
  obtain ⟨k, rfl⟩ : ∃ k, n = k + 2 := ⟨n - 2, by omega⟩
  rw [show k + 2 - 2 = k by omega, show W ^ (k + 2) = W * W * W ^ k by rw [Nat.pow_succ, Nat.pow_succ, Nat.mul_assoc, Nat.mul_comm]]
  rw [Nat.add_mul, Nat.add_mul, Nat.add_mul (nth us (j + (k + 2)) * W), Nat.add_mul]
  have : W * W * W ^ k * nth us (j + (k + 2)) = nth us (j + (k + 2)) * W * W * W ^ k := by rw [Nat.mul_comm, ← Nat.mul_assoc, ← Nat.mul_assoc]
  omega
/-- the guess, out of the lists -/
theorem guess_law {us vs : List Nat} {j n V : Nat} (ha : All W us) (hv : All W vs) (h2 : 2 ≤ n) (hl : j + n < us.length) (hvl : vs.length = n) (hV : val W vs = V) (h1 : W ^ (n - 1) ≤ V) (hlt : topU us j n < V * W) :
    nth us (j + n) ≤ nth vs (n - 1) ∧ topU us j n / V ≤ gq ((nth us (j + n) * W + nth us (j + n - 1)) * W + nth us (j + n - 2)) (nth vs (n - 1) * W + nth vs (n - 2)) ∧
      gq ((nth us (j + n) * W + nth us (j + n - 1)) * W + nth us (j + n - 2)) (nth vs (n - 1) * W + nth vs (n - 2)) ≤ topU us j n / V + 1 := by
  obtain ⟨ul, eU, hul⟩ := topU_parts ha h2 hl
  obtain ⟨eV, _⟩ := val_top2 hvl h2
  rw [hV] at eV
  have hp := top_pos hv hvl (by omega) (by rw [hV]; exact h1)
  refine ⟨?_, gq_near eU hul eV (low_lt hv (by omega)) hlt (by have := Nat.mul_le_mul_right W hp; omega)⟩
  have e := val_take_succ' (b := W) vs (n - 1)
  rw [show n - 1 + 1 = n by omega, List.take_of_length_le (show vs.length ≤ n by omega), hV] at e
  have hlow := low_lt (k := n - 1) hv (by omega)
  have a1 : V * W < W ^ n * (nth vs (n - 1) + 1) := by
    have : V < W ^ (n - 1) * (nth vs (n - 1) + 1) := by rw [Nat.mul_add]; omega
    have e2 : W ^ n = W ^ (n - 1) * W := by rw [← Nat.pow_succ, show (n - 1).succ = n by omega]
    rw [e2, Nat.mul_assoc, Nat.mul_comm W, ← Nat.mul_assoc]
    exact Nat.mul_lt_mul_of_pos_right this W_pos
  have a2 : W ^ n * nth us (j + n) ≤ topU us j n := by unfold topU; omega
  have := Nat.lt_of_mul_lt_mul_left (show W ^ n * nth us (j + n) < W ^ n * (nth vs (n - 1) + 1) by omega)
  omega
/-- the normalizing shift -/
theorem shift_law {ys : List Nat} {n s : Nat} (ha : All W ys) (hl : ys.length = n) (hn : 0 < n) (h1 : W ^ (n - 1) ≤ val W ys) (hs : s = 64 - blen (nth ys (n - 1))) :
    s ≤ 63 ∧ val W ys * 2 ^ s < W ^ n ∧ W ^ (n - 1) ≤ val W ys * 2 ^ s := by
  have hp := top_pos ha hl hn h1
  have ht := ha.nth W_pos (n - 1)
  obtain ⟨b1, b2⟩ := blen_ge ht hp
  have b3 := blen_lt ht
  have b4 := blen_le ht
  have e := val_take_succ' (b := W) ys (n - 1)
  rw [show n - 1 + 1 = n by omega, List.take_of_length_le (show ys.length ≤ n by omega)] at e
  have hlow := low_lt (k := n - 1) ha (by omega)
  generalize nth ys (n - 1) = t at *
  generalize blen t = b at *
  refine ⟨by omega, ?_, Nat.le_trans h1 (Nat.le_mul_of_pos_right _ (Nat.pow_pos (by omega)))⟩
  have a1 : val W ys < W ^ (n - 1) * (t + 1) := by rw [Nat.mul_add]; omega
  have a2 : (t + 1) * 2 ^ s ≤ W := by
    have : (t + 1) * 2 ^ s ≤ 2 ^ b * 2 ^ s := Nat.mul_le_mul_right _ b3
    rw [← Nat.pow_add, show b + s = 64 by omega] at this
    exact this
  have a3 : val W ys * 2 ^ s < W ^ (n - 1) * (t + 1) * 2 ^ s := Nat.mul_lt_mul_of_pos_right a1 (Nat.pow_pos (by omega))
  have a4 : W ^ (n - 1) * (t + 1) * 2 ^ s ≤ W ^ (n - 1) * W := by rw [Nat.mul_assoc]; exact Nat.mul_le_mul_left _ a2
  rw [← Nat.pow_succ, show (n - 1).succ = n by omega] at a4
  omega
/-- at the start -/
theorem KI.start {x y s n m : Nat} {us qs : List Nat} (hn : 0 < n) (hx : x < W ^ m) (hy : W ^ (n - 1) ≤ y) (hnm : n ≤ m) (hl : us.length = m + 1) (hql : qs.length + n = m + 1) (ha : All W us) (hq : All W qs) (hv : val W us = x * 2 ^ s) (hz : val W qs = 0) (hz2 : ∀ i, nth qs i = 0) :
    KI (x * 2 ^ s) (y * 2 ^ s) n (m + 1) (m + 1 - n) us qs := by
  refine ⟨⟨hl, hql, by omega⟩, ⟨ha, hq⟩, ?_, by rw [hv, hz]; simp, fun i _ => hz2 i⟩
  rw [hv, Nat.mul_right_comm]
  refine Nat.mul_lt_mul_of_pos_right ?_ (Nat.pow_pos (by omega))
  have := Nat.mul_le_mul_right (W ^ (m + 1 - n)) hy
  rw [← Nat.pow_add, show n - 1 + (m + 1 - n) = m by omega] at this
  omega
/-- what the two copies and the two stores leave -/
theorem spl_twice {us ds bs : List Nat} {j n t : Nat} (h : j + n < us.length) (hd : ds.length = n) (hb : bs.length = n) : (spl ((spl us j ds).set (j + n) t) j bs).set (j + n) 0 = (spl us j bs).set (j + n) 0 := by
  have e1 : ((spl us j ds).set (j + n) t).take j = us.take j := by
    rw [List.take_set_of_le (by omega), spl, List.append_assoc, List.take_append_of_le_length (by rw [List.length_take]; omega), List.take_take, Nat.min_self]
  have e2 : ((spl us j ds).set (j + n) t).drop (j + n) = t :: us.drop (j + n + 1) := by
    have hl : ((us.take j) ++ ds).length = j + n := by rw [List.length_append, List.length_take, hd]; omega
    have e3 : us.drop (j + n) = nth us (j + n) :: us.drop (j + n + 1) := by rw [List.drop_eq_getElem_cons h, nth_lt h]
    rw [spl, hd, e3, List.set_append_right _ _ (by omega), hl, Nat.sub_self, List.set_cons_zero, List.drop_append, hl, Nat.sub_self, List.drop_of_length_le (by omega)]
    rfl
  rw [spl, e1, hb, e2, spl, hb]
  have hl : ((us.take j) ++ bs).length = j + n := by rw [List.length_append, List.length_take, hb]; omega
  have e3 : us.drop (j + n) = nth us (j + n) :: us.drop (j + n + 1) := by rw [List.drop_eq_getElem_cons h, nth_lt h]
  rw [e3, List.set_append_right _ _ (by omega), List.set_append_right _ _ (by omega), hl, Nat.sub_self, List.set_cons_zero, List.set_cons_zero]
theorem spl_get {us ds : List Nat} {j n t : Nat} (h : j + n < us.length) (hd : ds.length = n) : nth ((spl us j ds).set (j + n) t) (j + n) = t := by
  rw [nth, List.getElem?_set_self (by rw [spl_len (by omega)]; omega), Option.getD_some]
theorem spl_keep {us ds : List Nat} {j n : Nat} (h : j + n < us.length) (hd : ds.length = n) : nth (spl us j ds) (j + n) = nth us (j + n) := by
  have hl : ((us.take j) ++ ds).length = j + n := by rw [List.length_append, List.length_take, hd]; omega
  rw [spl, hd, nth, List.getElem?_append_right (by omega), hl, Nat.sub_self, nth, List.getElem?_drop, Nat.add_zero]
theorem spl_mid' {us ds : List Nat} {j n t : Nat} (h : j + n < us.length) (hd : ds.length = n) : (((spl us j ds).set (j + n) t).drop j).take n = ds := by
  rw [List.drop_set, if_neg (by omega), show j + n - j = n by omega, List.take_set_of_le (Nat.le_refl _), spl, List.append_assoc, List.drop_append_of_le_length (by rw [List.length_take]; omega)]
  rw [List.drop_of_length_le (by rw [List.length_take]; omega), List.nil_append, List.take_append_of_le_length (by omega), List.take_of_length_le (by omega)]
theorem KI.end {x y s n N : Nat} {us qs : List Nat} (h : KI (x * 2 ^ s) (y * 2 ^ s) n N 0 us qs) (hV : y * 2 ^ s < W ^ n) : val W (us.take n) = x % y * 2 ^ s ∧ val W qs = x / y := by
  obtain ⟨h1, h2⟩ := h.done
  have hp : 0 < 2 ^ s := Nat.pow_pos (by omega)
  have h3 := h.2.2.1
  rw [Nat.pow_zero, Nat.mul_one] at h3
  refine ⟨?_, by rw [h2, Nat.mul_div_mul_right _ _ hp]⟩
  have e := val_cutW us n
  obtain ⟨p1, p2, p3⟩ := h.1
  rw [Nat.min_eq_left (by omega), h1, Nat.mul_mod_mul_right] at e
  rw [h1, Nat.mul_mod_mul_right] at h3
  rcases Nat.eq_zero_or_pos (val W (us.drop n)) with h0 | h0
  · rw [h0, Nat.mul_zero, Nat.add_zero] at e; exact e.symm
  · have := Nat.mul_le_mul_left (W ^ n) h0
    omega
end Go.Proofs.Ytnmfmdilhepmjaa
