/-
  Algorithm D in numbers: one digit of the quotient. No program here.
-/
import Derived.Test.YtnmfmdilhepmjaaKnu
namespace Go.Proofs.Ytnmfmdilhepmjaa
set_option linter.unusedVariables false

/-- the words from place j on that ys takes are ys -/
def spl (xs : List Nat) (j : Nat) (ys : List Nat) : List Nat := xs.take j ++ ys ++ xs.drop (j + ys.length)
theorem spl_len {xs ys : List Nat} {j : Nat} (h : j + ys.length ≤ xs.length) : (spl xs j ys).length = xs.length := by
  simp only [spl, List.length_append, List.length_take, List.length_drop]; omega
theorem val_cutW (xs : List Nat) (j : Nat) : val W xs = val W (xs.take j) + W ^ (min j xs.length) * val W (xs.drop j) := by
  rw [← List.length_take, ← val_append, List.take_append_drop]
/-- below place j, n words, one word, the others -/
theorem val_parts {xs : List Nat} {j n : Nat} (h : j + n < xs.length) :
    val W xs = val W (xs.take j) + W ^ j * (val W ((xs.drop j).take n) + W ^ n * nth xs (j + n)) + W ^ (j + n + 1) * val W (xs.drop (j + n + 1)) := by
  have e1 := val_cutW xs (j + n + 1)
  rw [Nat.min_eq_left (by omega)] at e1
  have e2 := val_take_succ (b := W) (xs := xs) (j + n) h
  have e3 := val_cutW (xs.take (j + n)) j
  rw [List.length_take, List.take_take, Nat.min_eq_left (by omega), Nat.min_eq_left (by omega)] at e3
  have e4 : (xs.take (j + n)).drop j = (xs.drop j).take n := by rw [List.drop_take]; congr 1; omega
  rw [e4] at e3
  rw [e1, e2, e3, Nat.pow_add, Nat.mul_add, Nat.mul_assoc]
  omega
theorem val_setW {xs : List Nat} {k x : Nat} (h : k < xs.length) : val W (xs.set k x) + W ^ k * nth xs k = val W xs + W ^ k * x := by
  induction xs generalizing k with
  | nil => simp at h
  | cons y ys ih =>
    cases k with
    | zero => simp [val, nth]; omega
    | succ k =>
      have := ih (k := k) (by simpa using h)
      simp only [List.set_cons_succ, val, nth, List.getElem?_cons_succ] at this ⊢
      rw [Nat.pow_succ]
      have e1 : W ^ k * W * (ys[k]?.getD 0) = W * (W ^ k * (ys[k]?.getD 0)) := by rw [Nat.mul_comm (W ^ k) W, Nat.mul_assoc]
      have e2 : W ^ k * W * x = W * (W ^ k * x) := by rw [Nat.mul_comm (W ^ k) W, Nat.mul_assoc]
      have e3 : W * (val W (ys.set k x) + W ^ k * ys[k]?.getD 0) = W * (val W ys + W ^ k * x) := by rw [this]
      rw [Nat.mul_add, Nat.mul_add] at e3
      omega
theorem nth_take_lt {xs : List Nat} {i j : Nat} (h : i < j) : nth (xs.take j) i = nth xs i := by rw [nth, nth, List.getElem?_take, if_pos h]
theorem nth_drop_add {xs : List Nat} {i j : Nat} : nth (xs.drop j) i = nth xs (j + i) := by rw [nth, nth, List.getElem?_drop]
/-- the two highest words -/
theorem val_top2 {xs : List Nat} {n : Nat} (hl : xs.length = n) (h2 : 2 ≤ n) : val W xs = (nth xs (n - 1) * W + nth xs (n - 2)) * W ^ (n - 2) + val W (xs.take (n - 2)) ∧ val W (xs.take (n - 2)) ≤ val W xs := by
  obtain ⟨k, rfl⟩ : ∃ k, n = k + 2 := ⟨n - 2, by omega⟩
  have e0 : xs.take (k + 2) = xs := List.take_of_length_le (by omega)
  have e1 := val_take_succ' (b := W) xs (k + 1)
  have e2 := val_take_succ' (b := W) xs k
  rw [e0] at e1
  have e3 : k + 2 - 1 = k + 1 := by omega
  have e4 : k + 2 - 2 = k := by omega
  rw [e3, e4, Nat.add_mul, Nat.mul_assoc]
  have e5 : W ^ (k + 1) * nth xs (k + 1) = nth xs (k + 1) * (W * W ^ k) := by rw [Nat.pow_succ, Nat.mul_comm (W ^ k) W, Nat.mul_comm]
  rw [Nat.mul_comm (nth xs k)]
  omega

/-- between the rounds: U0 = u + V q, u below V W^j -/
def KI (U0 V n N j : Nat) (us qs : List Nat) : Prop :=
  (us.length = N ∧ qs.length + n = N ∧ j + n ≤ N) ∧ (All W us ∧ All W qs) ∧ val W us < V * W ^ j ∧ U0 = val W us + V * val W qs ∧ ∀ i, i < j → nth qs i = 0
/-- the word U and its digit -/
def topU (us : List Nat) (j n : Nat) : Nat := val W ((us.drop j).take n) + W ^ n * nth us (j + n)
theorem KI.parts {U0 V n N j : Nat} {us qs : List Nat} (h : KI U0 V n N (j + 1) us qs) (hV : V < W ^ n) :
    val W us = val W (us.take j) + W ^ j * topU us j n ∧ topU us j n < V * W ∧ val W (us.drop (j + n + 1)) = 0 := by
  obtain ⟨⟨h1, h2, h3⟩, ⟨h4, h5⟩, h6, h7, h8⟩ := h
  have e := val_parts (xs := us) (j := j) (n := n) (by omega)
  have hz : val W (us.drop (j + n + 1)) = 0 := by
    rcases Nat.eq_zero_or_pos (val W (us.drop (j + n + 1))) with h | h
    · exact h
    · exfalso
      have a1 : W ^ (j + n + 1) * 1 ≤ W ^ (j + n + 1) * val W (us.drop (j + n + 1)) := Nat.mul_le_mul_left _ h
      have a2 : V * W ^ (j + 1) ≤ W ^ n * W ^ (j + 1) := Nat.mul_le_mul_right _ (Nat.le_of_lt hV)
      rw [← Nat.pow_add, show n + (j + 1) = j + n + 1 by omega] at a2
      omega
  rw [hz, Nat.mul_zero, Nat.add_zero] at e
  refine ⟨e, ?_, hz⟩
  have a3 : W ^ j * topU us j n < W ^ j * (V * W) := by
    have : V * W ^ (j + 1) = W ^ j * (V * W) := by rw [Nat.pow_succ, Nat.mul_left_comm]
    rw [← this]
    unfold topU at *
    omega
  exact Nat.lt_of_mul_lt_mul_left a3
theorem topU_lt {us : List Nat} {j n : Nat} (h : All W us) (hl : j + n < us.length) : topU us j n < W ^ (n + 1) := by
  have a1 := val_lt ((h.drop j).take n)
  rw [List.length_take, List.length_drop, Nat.min_eq_left (by omega)] at a1
  have a2 := h.nth W_pos (j + n)
  have a3 : W ^ n * (nth us (j + n) + 1) ≤ W ^ n * W := Nat.mul_le_mul_left _ a2
  rw [Nat.pow_succ]
  unfold topU
  rw [Nat.mul_add] at a3
  omega
theorem spl_take {us rs : List Nat} {j n : Nat} (h : j + n < us.length) (hrl : rs.length = n) : ((spl us j rs).set (j + n) 0).take j = us.take j := by
  rw [List.take_set_of_le (by omega), spl, List.append_assoc, List.take_append_of_le_length (by rw [List.length_take]; omega), List.take_take, Nat.min_self]
theorem spl_mid {us rs : List Nat} {j n : Nat} (h : j + n < us.length) (hrl : rs.length = n) : (((spl us j rs).set (j + n) 0).drop j).take n = rs := by
  rw [List.drop_set, if_neg (by omega), show j + n - j = n by omega, List.take_set_of_le (Nat.le_refl _), spl, List.append_assoc, List.drop_append_of_le_length (by rw [List.length_take]; omega)]
  rw [List.drop_of_length_le (by rw [List.length_take]; omega), List.nil_append, List.take_append_of_le_length (by omega), List.take_of_length_le (by omega)]
theorem spl_drop {us rs : List Nat} {j n : Nat} (h : j + n < us.length) (hrl : rs.length = n) : ((spl us j rs).set (j + n) 0).drop (j + n + 1) = us.drop (j + n + 1) := by
  rw [List.drop_set_of_lt (by omega), spl, hrl, List.drop_append]
  have : (us.take j ++ rs).length = j + n := by rw [List.length_append, List.length_take, hrl]; omega
  rw [this, List.drop_of_length_le (by omega), List.nil_append, List.drop_drop]
  congr 1
  omega
/-- the round, whichever way it goes -/
theorem KI.step {U0 V n N j d r : Nat} {us qs rs : List Nat} (h : KI U0 V n N (j + 1) us qs) (hV : V < W ^ n) (hd : d < W) (hrV : r < V) (hr : All W rs) (hrl : rs.length = n) (hrv : val W rs = r) (hT : topU us j n = r + V * d) :
    KI U0 V n N j ((spl us j rs).set (j + n) 0) (qs.set j d) := by
  obtain ⟨p1, p2, p3⟩ := h.parts hV
  obtain ⟨⟨h1, h2, h3⟩, ⟨h4, h5⟩, h6, h7, h8⟩ := h
  have hlen : (spl us j rs).length = us.length := spl_len (by omega)
  have hA : All W (spl us j rs) := ((h4.take j).append hr).append (h4.drop _)
  have hA2 : All W ((spl us j rs).set (j + n) 0) := hA.set W_pos _
  have hq : All W (qs.set j d) := h5.set hd _
  have hval : val W ((spl us j rs).set (j + n) 0) = val W (us.take j) + W ^ j * r := by
    have e := val_parts (xs := (spl us j rs).set (j + n) 0) (j := j) (n := n) (by rw [List.length_set, hlen]; omega)
    have e3 : nth ((spl us j rs).set (j + n) 0) (j + n) = 0 := by rw [nth, List.getElem?_set_self (by rw [hlen]; omega), Option.getD_some]
    rw [e, spl_take (by omega) hrl, spl_mid (by omega) hrl, e3, spl_drop (by omega) hrl, p3, hrv, Nat.mul_zero, Nat.mul_zero, Nat.add_zero, Nat.add_zero]
  have hlow : val W (us.take j) < W ^ j := by
    have := val_lt (h4.take j)
    rwa [List.length_take, Nat.min_eq_left (by omega)] at this
  have hqs : val W (qs.set j d) = val W qs + W ^ j * d := by
    have := val_setW (xs := qs) (k := j) (x := d) (by omega)
    rw [h8 j (by omega), Nat.mul_zero, Nat.add_zero] at this
    exact this
  refine ⟨⟨by rw [List.length_set, hlen, h1], by rw [List.length_set]; exact h2, by omega⟩, ⟨hA2, hq⟩, ?_, ?_, ?_⟩
  · rw [hval, Nat.mul_comm V]
    have := Nat.mul_le_mul_left (W ^ j) (show r + 1 ≤ V by omega)
    rw [Nat.mul_add] at this
    omega
  · rw [h7, hval, hqs, p1, Nat.mul_add, hT, Nat.mul_add, Nat.mul_left_comm (W ^ j) V d]
    omega
  · intro i hi
    rw [nth, List.getElem?_set_ne (by omega)]
    exact h8 i (by omega)
theorem KI.done {U0 V n N : Nat} {us qs : List Nat} (h : KI U0 V n N 0 us qs) : val W us = U0 % V ∧ val W qs = U0 / V := by
  obtain ⟨h1, h2, h3, h4, h5⟩ := h
  rw [Nat.pow_zero, Nat.mul_one] at h3
  constructor
  · rw [h4, Nat.add_mul_mod_self_left, Nat.mod_eq_of_lt h3]
  · rw [h4, Nat.add_mul_div_left _ _ (by omega), Nat.div_eq_of_lt h3, Nat.zero_add]

/-- the digit was right: what is left -/
theorem digit_right {U V n t d dv m : Nat} {DD : List Nat} (hU : U = m + W ^ n * t) (hsub : val W DD + d * V = m + W ^ n * dv) (hDl : val W DD < W ^ n) (hq : U / V ≤ d) (hV0 : 0 < V) (hV : V < W ^ n) (ht : dv ≤ t) : d = U / V ∧ t = dv ∧ val W DD = U % V := by
  obtain ⟨e, he⟩ : ∃ e, t = dv + e := ⟨t - dv, by omega⟩
  have h1 : d * V + (val W DD + W ^ n * e) = U := by rw [hU, he, Nat.mul_add]; omega
  have h2 : d ≤ U / V := by rw [Nat.le_div_iff_mul_le hV0]; omega
  have hd : d = U / V := by omega
  have h3 := Nat.div_add_mod U V
  have h4 := Nat.mod_lt U hV0
  rw [← hd, Nat.mul_comm V d] at h3
  have h5 : val W DD + W ^ n * e = U % V := by omega
  have he0 : e = 0 := by
    rcases Nat.eq_zero_or_pos e with h | h
    · exact h
    · have := Nat.mul_le_mul_left (W ^ n) h
      omega
  subst he0
  exact ⟨hd, by omega, by omega⟩
/-- the digit was 1 too great: what is left, added back -/
theorem digit_great {U V n t d dv m c : Nat} {DD BB : List Nat} (hU : U = m + W ^ n * t) (hsub : val W DD + d * V = m + W ^ n * dv) (hDl : val W DD < W ^ n) (hq2 : d ≤ U / V + 1) (hV0 : 0 < V) (hV : V < W ^ n) (ht : t < dv)
    (hadd : val W BB + W ^ n * c = val W DD + V) (hBl : val W BB < W ^ n) : d = U / V + 1 ∧ dv = t + 1 ∧ c = 1 ∧ val W BB = U % V := by
  obtain ⟨e, he⟩ : ∃ e, dv = t + e + 1 := ⟨dv - t - 1, by omega⟩
  have h1 : val W DD + d * V = U + W ^ n * e + W ^ n := by rw [hsub, hU, he, Nat.mul_add, Nat.mul_add]; omega
  have h2 : ¬ d ≤ U / V := by
    intro h
    have := Nat.mul_le_mul_right V h
    have := Nat.div_mul_le_self U V
    omega
  have hd : d = U / V + 1 := by omega
  have h3 := Nat.div_add_mod U V
  have h4 := Nat.mod_lt U hV0
  have h5 : d * V = V * (U / V) + V := by rw [hd, Nat.add_mul, Nat.mul_comm]; omega
  have h6 : val W DD + V = U % V + W ^ n * e + W ^ n := by omega
  have he0 : e = 0 := by
    rcases Nat.eq_zero_or_pos e with h | h
    · exact h
    · have := Nat.mul_le_mul_left (W ^ n) h
      omega
  subst he0
  have hc : c = 1 := by
    rcases Nat.lt_trichotomy c 1 with h | h | h
    · obtain rfl : c = 0 := by omega
      omega
    · exact h
    · have := Nat.mul_le_mul_left (W ^ n) (show 2 ≤ c by omega)
      omega
  subst hc
  exact ⟨hd, by omega, rfl, by omega⟩
end Go.Proofs.Ytnmfmdilhepmjaa
