/-
  Algorithm D in numbers: the digit that the three and the two highest digits give is right or 1 too great. No program here. Algorithm D in numbers: one digit of the quotient. No program here. Algorithm D in numbers: the guess out of the digits in the lists, the normalizing shift, what the round leaves. No program here.
-/
import Derived.Test.YtamfhmmcnlollaaGreatNum
import Derived.Test.YtamfhmmcnlollaaGreatBitsB
namespace Go.Proofs.YtamfhmmcnlollaaGreat
set_option linter.unusedVariables false

/-- the digit that is guessed -/
def gq (T V2 : Nat) : Nat := min (W - 1) (T / V2)

theorem gq_lt (T V2 : Nat) : gq T V2 < W := by unfold gq; have := W_pos; omega
/-- right, or 1 too great -/
theorem gq_near {U V T V2 B ul vl : Nat} (hU : U = T * B + ul) (hul : ul < B) (hV : V = V2 * B + vl) (hvl : vl < B) (hlt : U < V * W) (hn : W ≤ V2) :
    U / V ≤ gq T V2 ∧ gq T V2 ≤ U / V + 1 := by
  have hW := W_pos
  have hB : 0 < B := by omega
  have hV2 : 0 < V2 := by omega
  have hV0 : 0 < V := by
    have := Nat.mul_pos hV2 hB
    omega
  constructor
  · have h1 : U / V < W := (Nat.div_lt_iff_lt_mul hV0).2 (by rwa [Nat.mul_comm])
    have h2 : U / V ≤ T / V2 := by
      rw [Nat.le_div_iff_mul_le hV2]
      have h3 : U / V * V ≤ U := Nat.div_mul_le_self U V
      have h4 : U / V * V2 * B ≤ U / V * V := by
        rw [Nat.mul_assoc]
        exact Nat.mul_le_mul_left _ (by omega)
      have h5 : U / V * V2 * B < (T + 1) * B := by rw [Nat.add_mul]; omega
      have := Nat.lt_of_mul_lt_mul_right h5
      exact Nat.le_of_lt_succ this
    exact Nat.le_min.2 ⟨Nat.le_sub_one_of_lt h1, h2⟩
  · rcases Nat.eq_zero_or_pos (gq T V2) with h0 | h0
    · rw [h0]; exact Nat.zero_le _
    · have h1 : gq T V2 * V2 ≤ T := by
        refine Nat.le_trans (Nat.mul_le_mul_right _ (show gq T V2 ≤ T / V2 from Nat.min_le_right _ _)) (Nat.div_mul_le_self _ _)
      have h2 := gq_lt T V2
      generalize gq T V2 = g at *
      obtain ⟨p, rfl⟩ : ∃ p, g = p + 1 := ⟨g - 1, by omega⟩
      have h3 : p ≤ U / V := by
        rw [Nat.le_div_iff_mul_le hV0, hV, hU]
        have h4 : p * vl ≤ W * B := Nat.mul_le_mul (by omega) (by omega)
        have h5 : W * B ≤ V2 * B := Nat.mul_le_mul_right _ hn
        have h6 : (p + 1) * V2 * B ≤ T * B := Nat.mul_le_mul_right _ h1
        rw [Nat.add_mul, Nat.add_mul, Nat.one_mul] at h6
        rw [Nat.mul_add, ← Nat.mul_assoc]
        omega
      omega

/-- the second digit says that the digit isn't too great -/
theorem hi_lo {q v0 rest u0 : Nat} (hu : u0 < W) : (q * v0 / W < rest ∨ q * v0 / W = rest ∧ q * v0 % W ≤ u0) ↔ q * v0 ≤ rest * W + u0 := by
  have hW := W_pos
  have e := Nat.div_add_mod (q * v0) W
  have l := Nat.mod_lt (q * v0) hW
  generalize q * v0 = x at *
  generalize x / W = d at *
  generalize x % W = m at *
  constructor
  · rintro (h | ⟨rfl, h⟩)
    · have := Nat.mul_le_mul_left W (show d + 1 ≤ rest by omega)
      rw [Nat.mul_add, Nat.mul_comm W rest] at this
      omega
    · rw [Nat.mul_comm d W]; omega
  · intro h
    rcases Nat.lt_trichotomy d rest with h1 | h1 | h1
    · exact .inl h1
    · subst h1
      rw [Nat.mul_comm d W] at h
      exact .inr ⟨rfl, by omega⟩
    · exfalso
      have := Nat.mul_le_mul_left W (show rest + 1 ≤ d by omega)
      rw [Nat.mul_add, Nat.mul_comm W rest] at this
      omega

/-- what holds at each round of the correction: q v1 + rest = T -/
def CorI (T u0 v1 v0 q rest : Nat) : Prop := q * v1 + rest = T ∧ gq (T * W + u0) (v1 * W + v0) ≤ q ∧ q < W
theorem cor_expand (q v1 v0 : Nat) : q * (v1 * W + v0) = q * v1 * W + q * v0 := by rw [Nat.mul_add, Nat.mul_assoc]
theorem CorI.stop {T u0 v1 v0 q rest : Nat} (h : CorI T u0 v1 v0 q rest) (hv : 0 < v1) (hs : q * v0 ≤ rest * W + u0) : gq (T * W + u0) (v1 * W + v0) = q := by
  obtain ⟨h1, h2, h3⟩ := h
  have hp : 0 < v1 * W + v0 := by have := Nat.mul_pos hv W_pos; omega
  have h4 : q ≤ (T * W + u0) / (v1 * W + v0) := by
    rw [Nat.le_div_iff_mul_le hp, cor_expand, ← h1, Nat.add_mul]
    omega
  exact Nat.le_antisymm h2 (Nat.le_min.2 ⟨Nat.le_sub_one_of_lt h3, h4⟩)
theorem CorI.step {T u0 v1 v0 q rest : Nat} (h : CorI T u0 v1 v0 q rest) (hv : 0 < v1) (hs : ¬ q * v0 ≤ rest * W + u0) : ∃ p, q = p + 1 ∧ CorI T u0 v1 v0 p (rest + v1) := by
  obtain ⟨h1, h2, h3⟩ := h
  have hp : 0 < v1 * W + v0 := by have := Nat.mul_pos hv W_pos; omega
  have h4 : (T * W + u0) / (v1 * W + v0) < q := by
    rw [Nat.div_lt_iff_lt_mul hp, cor_expand, ← h1, Nat.add_mul]
    omega
  have h5 : 0 < q := Nat.lt_of_le_of_lt (Nat.zero_le _) h4
  obtain ⟨p, rfl⟩ : ∃ p, q = p + 1 := ⟨q - 1, by omega⟩
  exact ⟨p, rfl, by rw [Nat.add_mul] at h1; omega, Nat.le_trans (Nat.min_le_right _ _) (Nat.le_of_lt_succ h4), by omega⟩
theorem CorI.over {T u0 v1 v0 q rest : Nat} (h : CorI T u0 v1 v0 q rest) (hv : 0 < v1) (hv0 : v0 < W) (ho : W ≤ rest) : gq (T * W + u0) (v1 * W + v0) = q := by
  refine h.stop hv ?_
  have h3 := h.2.2
  have h4 : q * v0 ≤ W * W := Nat.mul_le_mul (by omega) (by omega)
  have h5 : W * W ≤ rest * W := Nat.mul_le_mul_right _ ho
  omega
theorem CorI.top {u2 u1 u0 v1 v0 : Nat} (h : u2 = v1) (hv : v1 < W) : CorI (u2 * W + u1) u0 v1 v0 (W - 1) (u1 + v1) := by
  subst h
  have hW := W_pos
  refine ⟨?_, Nat.min_le_left _ _, by omega⟩
  obtain ⟨k, hk⟩ : ∃ k, W = k + 1 := ⟨W - 1, by omega⟩
  rw [hk, Nat.mul_comm u2 (k + 1), Nat.add_mul]
  simp
  omega
theorem CorI.div {T u0 v1 v0 : Nat} (hv : 0 < v1) (hu : u0 < W) (h : T / v1 < W) : CorI T u0 v1 v0 (T / v1) (T % v1) := by
  have hp : 0 < v1 * W + v0 := by have := Nat.mul_pos hv W_pos; omega
  refine ⟨by rw [Nat.mul_comm]; exact Nat.div_add_mod T v1, ?_, h⟩
  have : (T * W + u0) / (v1 * W + v0) * v1 ≤ T := by
    have h1 := Nat.div_mul_le_self (T * W + u0) (v1 * W + v0)
    generalize (T * W + u0) / (v1 * W + v0) = d at *
    rw [cor_expand] at h1
    have h2 : d * v1 * W < (T + 1) * W := by rw [Nat.add_mul]; omega
    have := Nat.lt_of_mul_lt_mul_right h2
    omega
  have := (Nat.le_div_iff_mul_le hv).2 this
  exact Nat.le_trans (Nat.min_le_right _ _) this
end Go.Proofs.YtamfhmmcnlollaaGreat
namespace Go.Proofs.YtamfhmmcnlollaaGreat
set_option linter.unusedVariables false

/-- the words from place j on that ys takes are ys -/
def spl (xs : List Nat) (j : Nat) (ys : List Nat) : List Nat := xs.take j ++ ys ++ xs.drop (j + ys.length)
theorem spl_len {xs ys : List Nat} {j : Nat} (h : j + ys.length ≤ xs.length) : (spl xs j ys).length = xs.length := by
  simp only [spl, List.length_append, List.length_take, List.length_drop]; omega
theorem val_cutW (xs : List Nat) (j : Nat) : val W xs = val W (xs.take j) + W ^ (min j xs.length) * val W (xs.drop j) := by
  rw [← List.length_take, ← val_append, List.take_append_drop]
/-- below place j, n words, one word, the others -/
theorem val_parts {xs : List Nat} {j n : Nat} (h : j + n < xs.length) :
    val W xs = val W (xs.take j) + W ^ j * (val W ((xs.drop j).take n) + W ^ n * nth xs (j + n)) + W ^ (j + n + 1) * val W (xs.drop (j + n + 1)) := by
  have e1 := val_cutW xs (j + n + 1)
  rw [Nat.min_eq_left (by omega)] at e1
  have e2 := val_take_succ (b := W) (xs := xs) (j + n) h
  have e3 := val_cutW (xs.take (j + n)) j
  rw [List.length_take, List.take_take, Nat.min_eq_left (by omega), Nat.min_eq_left (by omega)] at e3
  have e4 : (xs.take (j + n)).drop j = (xs.drop j).take n := by rw [List.drop_take]; congr 1; omega
  rw [e4] at e3
  rw [e1, e2, e3, Nat.pow_add, Nat.mul_add, Nat.mul_assoc]
  omega
theorem val_setW {xs : List Nat} {k x : Nat} (h : k < xs.length) : val W (xs.set k x) + W ^ k * nth xs k = val W xs + W ^ k * x := by
  induction xs generalizing k with
  | nil => simp at h
  | cons y ys ih =>
    cases k with
    | zero => simp [val, nth]; omega
    | succ k =>
      have := ih (k := k) (by simpa using h)
      simp only [List.set_cons_succ, val, nth, List.getElem?_cons_succ] at this ⊢
      rw [Nat.pow_succ]
      have e1 : W ^ k * W * (ys[k]?.getD 0) = W * (W ^ k * (ys[k]?.getD 0)) := by rw [Nat.mul_comm (W ^ k) W, Nat.mul_assoc]
      have e2 : W ^ k * W * x = W * (W ^ k * x) := by rw [Nat.mul_comm (W ^ k) W, Nat.mul_assoc]
      have e3 : W * (val W (ys.set k x) + W ^ k * ys[k]?.getD 0) = W * (val W ys + W ^ k * x) := by rw [this]
      rw [Nat.mul_add, Nat.mul_add] at e3
      omega
theorem nth_take_lt {xs : List Nat} {i j : Nat} (h : i < j) : nth (xs.take j) i = nth xs i := by rw [nth, nth, List.getElem?_take, if_pos h]
theorem nth_drop_add {xs : List Nat} {i j : Nat} : nth (xs.drop j) i = nth xs (j + i) := by rw [nth, nth, List.getElem?_drop]
/-- the two highest words -/
theorem val_top2 {xs : List Nat} {n : Nat} (hl : xs.length = n) (h2 : 2 ≤ n) : val W xs = (nth xs (n - 1) * W + nth xs (n - 2)) * W ^ (n - 2) + val W (xs.take (n - 2)) ∧ val W (xs.take (n - 2)) ≤ val W xs := by
  obtain ⟨k, rfl⟩ : ∃ k, n = k + 2 := ⟨n - 2, by omega⟩
  have e0 : xs.take (k + 2) = xs := List.take_of_length_le (by omega)
  have e1 := val_take_succ' (b := W) xs (k + 1)
  have e2 := val_take_succ' (b := W) xs k
  rw [e0] at e1
  have e3 : k + 2 - 1 = k + 1 := by omega
  have e4 : k + 2 - 2 = k := by omega
  rw [e3, e4, Nat.add_mul, Nat.mul_assoc]
  have e5 : W ^ (k + 1) * nth xs (k + 1) = nth xs (k + 1) * (W * W ^ k) := by rw [Nat.pow_succ, Nat.mul_comm (W ^ k) W, Nat.mul_comm]
  rw [Nat.mul_comm (nth xs k)]
  omega

/-- between the rounds: U0 = u + V q, u below V W^j -/
def KI (U0 V n N j : Nat) (us qs : List Nat) : Prop :=
  (us.length = N ∧ qs.length + n = N ∧ j + n ≤ N) ∧ (All W us ∧ All W qs) ∧ val W us < V * W ^ j ∧ U0 = val W us + V * val W qs ∧ ∀ i, i < j → nth qs i = 0
/-- the word U and its digit -/
def topU (us : List Nat) (j n : Nat) : Nat := val W ((us.drop j).take n) + W ^ n * nth us (j + n)
theorem KI.parts {U0 V n N j : Nat} {us qs : List Nat} (h : KI U0 V n N (j + 1) us qs) (hV : V < W ^ n) :
    val W us = val W (us.take j) + W ^ j * topU us j n ∧ topU us j n < V * W ∧ val W (us.drop (j + n + 1)) = 0 := by
  obtain ⟨⟨h1, h2, h3⟩, ⟨h4, h5⟩, h6, h7, h8⟩ := h
  have e := val_parts (xs := us) (j := j) (n := n) (by omega)
  have hz : val W (us.drop (j + n + 1)) = 0 := by
    rcases Nat.eq_zero_or_pos (val W (us.drop (j + n + 1))) with h | h
    · exact h
    · exfalso
      have a1 : W ^ (j + n + 1) * 1 ≤ W ^ (j + n + 1) * val W (us.drop (j + n + 1)) := Nat.mul_le_mul_left _ h
      have a2 : V * W ^ (j + 1) ≤ W ^ n * W ^ (j + 1) := Nat.mul_le_mul_right _ (Nat.le_of_lt hV)
      rw [← Nat.pow_add, show n + (j + 1) = j + n + 1 by omega] at a2
      omega
  rw [hz, Nat.mul_zero, Nat.add_zero] at e
  refine ⟨e, ?_, hz⟩
  have a3 : W ^ j * topU us j n < W ^ j * (V * W) := by
    have : V * W ^ (j + 1) = W ^ j * (V * W) := by rw [Nat.pow_succ, Nat.mul_left_comm]
    rw [← this]
    unfold topU at *
    omega
  exact Nat.lt_of_mul_lt_mul_left a3
theorem spl_take {us rs : List Nat} {j n : Nat} (h : j + n < us.length) (hrl : rs.length = n) : ((spl us j rs).set (j + n) 0).take j = us.take j := by
  rw [List.take_set_of_le (by omega), spl, List.append_assoc, List.take_append_of_le_length (by rw [List.length_take]; omega), List.take_take, Nat.min_self]
theorem spl_mid {us rs : List Nat} {j n : Nat} (h : j + n < us.length) (hrl : rs.length = n) : (((spl us j rs).set (j + n) 0).drop j).take n = rs := by
  rw [List.drop_set, if_neg (by omega), show j + n - j = n by omega, List.take_set_of_le (Nat.le_refl _), spl, List.append_assoc, List.drop_append_of_le_length (by rw [List.length_take]; omega)]
  rw [List.drop_of_length_le (by rw [List.length_take]; omega), List.nil_append, List.take_append_of_le_length (by omega), List.take_of_length_le (by omega)]
theorem spl_drop {us rs : List Nat} {j n : Nat} (h : j + n < us.length) (hrl : rs.length = n) : ((spl us j rs).set (j + n) 0).drop (j + n + 1) = us.drop (j + n + 1) := by
  rw [List.drop_set_of_lt (by omega), spl, hrl, List.drop_append]
  have : (us.take j ++ rs).length = j + n := by rw [List.length_append, List.length_take, hrl]; omega
  rw [this, List.drop_of_length_le (by omega), List.nil_append, List.drop_drop]
  congr 1
  omega
/-- the round, whichever way it goes -/
theorem KI.step {U0 V n N j d r : Nat} {us qs rs : List Nat} (h : KI U0 V n N (j + 1) us qs) (hV : V < W ^ n) (hd : d < W) (hrV : r < V) (hr : All W rs) (hrl : rs.length = n) (hrv : val W rs = r) (hT : topU us j n = r + V * d) :
    KI U0 V n N j ((spl us j rs).set (j + n) 0) (qs.set j d) := by
  obtain ⟨p1, p2, p3⟩ := h.parts hV
  obtain ⟨⟨h1, h2, h3⟩, ⟨h4, h5⟩, h6, h7, h8⟩ := h
  have hlen : (spl us j rs).length = us.length := spl_len (by omega)
  have hA : All W (spl us j rs) := ((h4.take j).append hr).append (h4.drop _)
  have hA2 : All W ((spl us j rs).set (j + n) 0) := hA.set W_pos _
  have hq : All W (qs.set j d) := h5.set hd _
  have hval : val W ((spl us j rs).set (j + n) 0) = val W (us.take j) + W ^ j * r := by
    have e := val_parts (xs := (spl us j rs).set (j + n) 0) (j := j) (n := n) (by rw [List.length_set, hlen]; omega)
    have e3 : nth ((spl us j rs).set (j + n) 0) (j + n) = 0 := by rw [nth, List.getElem?_set_self (by rw [hlen]; omega), Option.getD_some]
    rw [e, spl_take (by omega) hrl, spl_mid (by omega) hrl, e3, spl_drop (by omega) hrl, p3, hrv, Nat.mul_zero, Nat.mul_zero, Nat.add_zero, Nat.add_zero]
  have hlow : val W (us.take j) < W ^ j := by
    have := val_lt (h4.take j)
    rwa [List.length_take, Nat.min_eq_left (by omega)] at this
  have hqs : val W (qs.set j d) = val W qs + W ^ j * d := by
    have := val_setW (xs := qs) (k := j) (x := d) (by omega)
    rw [h8 j (by omega), Nat.mul_zero, Nat.add_zero] at this
    exact this
  refine ⟨⟨by rw [List.length_set, hlen, h1], by rw [List.length_set]; exact h2, by omega⟩, ⟨hA2, hq⟩, ?_, ?_, ?_⟩
  · rw [hval, Nat.mul_comm V]
    have := Nat.mul_le_mul_left (W ^ j) (show r + 1 ≤ V by omega)
    rw [Nat.mul_add] at this
    omega
  · rw [h7, hval, hqs, p1, Nat.mul_add, hT, Nat.mul_add, Nat.mul_left_comm (W ^ j) V d]
    omega
  · intro i hi
    rw [nth, List.getElem?_set_ne (by omega)]
    exact h8 i (by omega)
theorem KI.done {U0 V n N : Nat} {us qs : List Nat} (h : KI U0 V n N 0 us qs) : val W us = U0 % V ∧ val W qs = U0 / V := by
  obtain ⟨h1, h2, h3, h4, h5⟩ := h
  rw [Nat.pow_zero, Nat.mul_one] at h3
  constructor
  · rw [h4, Nat.add_mul_mod_self_left, Nat.mod_eq_of_lt h3]
  · rw [h4, Nat.add_mul_div_left _ _ (by omega), Nat.div_eq_of_lt h3, Nat.zero_add]

/-- the digit was right: what is left -/
theorem digit_right {U V n t d dv m : Nat} {DD : List Nat} (hU : U = m + W ^ n * t) (hsub : val W DD + d * V = m + W ^ n * dv) (hDl : val W DD < W ^ n) (hq : U / V ≤ d) (hV0 : 0 < V) (hV : V < W ^ n) (ht : dv ≤ t) : d = U / V ∧ t = dv ∧ val W DD = U % V := by
  obtain ⟨e, he⟩ : ∃ e, t = dv + e := ⟨t - dv, by omega⟩
  have h1 : d * V + (val W DD + W ^ n * e) = U := by rw [hU, he, Nat.mul_add]; omega
  have h2 : d ≤ U / V := by rw [Nat.le_div_iff_mul_le hV0]; omega
  have hd : d = U / V := by omega
  have h3 := Nat.div_add_mod U V
  have h4 := Nat.mod_lt U hV0
  rw [← hd, Nat.mul_comm V d] at h3
  have h5 : val W DD + W ^ n * e = U % V := by omega
  have he0 : e = 0 := by
    rcases Nat.eq_zero_or_pos e with h | h
    · exact h
    · have := Nat.mul_le_mul_left (W ^ n) h
      omega
  subst he0
  exact ⟨hd, by omega, by omega⟩
/-- the digit was 1 too great: what is left, added back -/
theorem digit_great {U V n t d dv m c : Nat} {DD BB : List Nat} (hU : U = m + W ^ n * t) (hsub : val W DD + d * V = m + W ^ n * dv) (hDl : val W DD < W ^ n) (hq2 : d ≤ U / V + 1) (hV0 : 0 < V) (hV : V < W ^ n) (ht : t < dv)
    (hadd : val W BB + W ^ n * c = val W DD + V) (hBl : val W BB < W ^ n) : d = U / V + 1 ∧ dv = t + 1 ∧ c = 1 ∧ val W BB = U % V := by
  obtain ⟨e, he⟩ : ∃ e, dv = t + e + 1 := ⟨dv - t - 1, by omega⟩
  have h1 : val W DD + d * V = U + W ^ n * e + W ^ n := by rw [hsub, hU, he, Nat.mul_add, Nat.mul_add]; omega
  have h2 : ¬ d ≤ U / V := by
    intro h
    have := Nat.mul_le_mul_right V h
    have := Nat.div_mul_le_self U V
    omega
  have hd : d = U / V + 1 := by omega
  have h3 := Nat.div_add_mod U V
  have h4 := Nat.mod_lt U hV0
  have h5 : d * V = V * (U / V) + V := by rw [hd, Nat.add_mul, Nat.mul_comm]; omega
  have h6 : val W DD + V = U % V + W ^ n * e + W ^ n := by omega
  have he0 : e = 0 := by
    rcases Nat.eq_zero_or_pos e with h | h
    · exact h
    · have := Nat.mul_le_mul_left (W ^ n) h
      omega
  subst he0
  have hc : c = 1 := by
    rcases Nat.lt_trichotomy c 1 with h | h | h
    · obtain rfl : c = 0 := by omega
      omega
    · exact h
    · have := Nat.mul_le_mul_left (W ^ n) (show 2 ≤ c by omega)
      omega
  subst hc
  exact ⟨hd, by omega, rfl, by omega⟩
end Go.Proofs.YtamfhmmcnlollaaGreat
namespace Go.Proofs.YtamfhmmcnlollaaGreat
set_option linter.unusedVariables false

theorem dg_len_eq {V n : Nat} (hn : 0 < n) (h1 : W ^ (n - 1) ≤ V) (h2 : V < W ^ n) : (dg W V).length = n := by
  have a := dg_len W_gt h2
  have b := val_lt (dg_all W_gt V)
  rw [dg_val W_gt] at b
  have : W ^ (n - 1) < W ^ (dg W V).length := by omega
  have := (Nat.pow_lt_pow_iff_right W_gt).1 this
  omega
theorem top_pos {vs : List Nat} {n : Nat} (hv : All W vs) (hl : vs.length = n) (hn : 0 < n) (h : W ^ (n - 1) ≤ val W vs) : 0 < nth vs (n - 1) := by
  rcases Nat.eq_zero_or_pos (nth vs (n - 1)) with h0 | h0
  · exfalso
    have e := val_take_succ' (b := W) vs (n - 1)
    rw [h0, Nat.mul_zero, Nat.add_zero, show n - 1 + 1 = n by omega, List.take_of_length_le (by omega)] at e
    have := val_lt (hv.take (n - 1))
    rw [List.length_take, Nat.min_eq_left (by omega)] at this
    omega
  · exact h0
theorem low_lt {xs : List Nat} {k : Nat} (h : All W xs) (hk : k ≤ xs.length) : val W (xs.take k) < W ^ k := by
  have := val_lt (h.take k)
  rwa [List.length_take, Nat.min_eq_left hk] at this
theorem topU_parts {us : List Nat} {j n : Nat} (ha : All W us) (h2 : 2 ≤ n) (hl : j + n < us.length) :
    ∃ ul, topU us j n = ((nth us (j + n) * W + nth us (j + n - 1)) * W + nth us (j + n - 2)) * W ^ (n - 2) + ul ∧ ul < W ^ (n - 2) := by
  have hml : ((us.drop j).take n).length = n := by rw [List.length_take, List.length_drop]; omega
  obtain ⟨e, _⟩ := val_top2 hml h2
  have e1 : nth ((us.drop j).take n) (n - 1) = nth us (j + n - 1) := by rw [nth_take_lt (by omega), nth_drop_add]; congr 1; omega
  have e2 : nth ((us.drop j).take n) (n - 2) = nth us (j + n - 2) := by rw [nth_take_lt (by omega), nth_drop_add]; congr 1; omega
  have hlow := low_lt (k := n - 2) ((ha.drop j).take n) (by omega)
  refine ⟨_, ?_, hlow⟩
  rw [topU, e, e1, e2]
  obtain ⟨k, rfl⟩ : ∃ k, n = k + 2 := ⟨n - 2, by omega⟩
  rw [show k + 2 - 2 = k by omega, show W ^ (k + 2) = W * W * W ^ k by rw [Nat.pow_succ, Nat.pow_succ, Nat.mul_assoc, Nat.mul_comm]]
  rw [Nat.add_mul, Nat.add_mul, Nat.add_mul (nth us (j + (k + 2)) * W), Nat.add_mul]
  have : W * W * W ^ k * nth us (j + (k + 2)) = nth us (j + (k + 2)) * W * W * W ^ k := by rw [Nat.mul_comm, ← Nat.mul_assoc, ← Nat.mul_assoc]
  omega
/-- the guess, out of the lists -/
theorem guess_law {us vs : List Nat} {j n V : Nat} (ha : All W us) (hv : All W vs) (h2 : 2 ≤ n) (hl : j + n < us.length) (hvl : vs.length = n) (hV : val W vs = V) (h1 : W ^ (n - 1) ≤ V) (hlt : topU us j n < V * W) :
    nth us (j + n) ≤ nth vs (n - 1) ∧ topU us j n / V ≤ gq ((nth us (j + n) * W + nth us (j + n - 1)) * W + nth us (j + n - 2)) (nth vs (n - 1) * W + nth vs (n - 2)) ∧
      gq ((nth us (j + n) * W + nth us (j + n - 1)) * W + nth us (j + n - 2)) (nth vs (n - 1) * W + nth vs (n - 2)) ≤ topU us j n / V + 1 := by
  obtain ⟨ul, eU, hul⟩ := topU_parts ha h2 hl
  obtain ⟨eV, _⟩ := val_top2 hvl h2
  rw [hV] at eV
  have hp := top_pos hv hvl (by omega) (by rw [hV]; exact h1)
  refine ⟨?_, gq_near eU hul eV (low_lt hv (by omega)) hlt (by have := Nat.mul_le_mul_right W hp; omega)⟩
  have e := val_take_succ' (b := W) vs (n - 1)
  rw [show n - 1 + 1 = n by omega, List.take_of_length_le (show vs.length ≤ n by omega), hV] at e
  have hlow := low_lt (k := n - 1) hv (by omega)
  have a1 : V * W < W ^ n * (nth vs (n - 1) + 1) := by
    have : V < W ^ (n - 1) * (nth vs (n - 1) + 1) := by rw [Nat.mul_add]; omega
    have e2 : W ^ n = W ^ (n - 1) * W := by rw [← Nat.pow_succ, show (n - 1).succ = n by omega]
    rw [e2, Nat.mul_assoc, Nat.mul_comm W, ← Nat.mul_assoc]
    exact Nat.mul_lt_mul_of_pos_right this W_pos
  have a2 : W ^ n * nth us (j + n) ≤ topU us j n := by unfold topU; omega
  have := Nat.lt_of_mul_lt_mul_left (show W ^ n * nth us (j + n) < W ^ n * (nth vs (n - 1) + 1) by omega)
  omega
/-- the normalizing shift -/
theorem shift_law {ys : List Nat} {n s : Nat} (ha : All W ys) (hl : ys.length = n) (hn : 0 < n) (h1 : W ^ (n - 1) ≤ val W ys) (hs : s = 64 - blen (nth ys (n - 1))) :
    s ≤ 63 ∧ val W ys * 2 ^ s < W ^ n ∧ W ^ (n - 1) ≤ val W ys * 2 ^ s := by
  have hp := top_pos ha hl hn h1
  have ht := ha.nth W_pos (n - 1)
  obtain ⟨b1, b2⟩ := blen_ge ht hp
  have b3 := blen_lt ht
  have b4 := blen_le ht
  have e := val_take_succ' (b := W) ys (n - 1)
  rw [show n - 1 + 1 = n by omega, List.take_of_length_le (show ys.length ≤ n by omega)] at e
  have hlow := low_lt (k := n - 1) ha (by omega)
  generalize nth ys (n - 1) = t at *
  generalize blen t = b at *
  refine ⟨by omega, ?_, Nat.le_trans h1 (Nat.le_mul_of_pos_right _ (Nat.pow_pos (by omega)))⟩
  have a1 : val W ys < W ^ (n - 1) * (t + 1) := by rw [Nat.mul_add]; omega
  have a2 : (t + 1) * 2 ^ s ≤ W := by
    have : (t + 1) * 2 ^ s ≤ 2 ^ b * 2 ^ s := Nat.mul_le_mul_right _ b3
    rw [← Nat.pow_add, show b + s = 64 by omega] at this
    exact this
  have a3 : val W ys * 2 ^ s < W ^ (n - 1) * (t + 1) * 2 ^ s := Nat.mul_lt_mul_of_pos_right a1 (Nat.pow_pos (by omega))
  have a4 : W ^ (n - 1) * (t + 1) * 2 ^ s ≤ W ^ (n - 1) * W := by rw [Nat.mul_assoc]; exact Nat.mul_le_mul_left _ a2
  rw [← Nat.pow_succ, show (n - 1).succ = n by omega] at a4
  omega
/-- at the start -/
theorem KI.start {x y s n m : Nat} {us qs : List Nat} (hn : 0 < n) (hx : x < W ^ m) (hy : W ^ (n - 1) ≤ y) (hnm : n ≤ m) (hl : us.length = m + 1) (hql : qs.length + n = m + 1) (ha : All W us) (hq : All W qs) (hv : val W us = x * 2 ^ s) (hz : val W qs = 0) (hz2 : ∀ i, nth qs i = 0) :
    KI (x * 2 ^ s) (y * 2 ^ s) n (m + 1) (m + 1 - n) us qs := by
  refine ⟨⟨hl, hql, by omega⟩, ⟨ha, hq⟩, ?_, by rw [hv, hz]; simp, fun i _ => hz2 i⟩
  rw [hv, Nat.mul_right_comm]
  refine Nat.mul_lt_mul_of_pos_right ?_ (Nat.pow_pos (by omega))
  have := Nat.mul_le_mul_right (W ^ (m + 1 - n)) hy
  rw [← Nat.pow_add, show n - 1 + (m + 1 - n) = m by omega] at this
  omega
/-- what the two copies and the two stores leave -/
theorem spl_twice {us ds bs : List Nat} {j n t : Nat} (h : j + n < us.length) (hd : ds.length = n) (hb : bs.length = n) : (spl ((spl us j ds).set (j + n) t) j bs).set (j + n) 0 = (spl us j bs).set (j + n) 0 := by
  have e1 : ((spl us j ds).set (j + n) t).take j = us.take j := by
    rw [List.take_set_of_le (by omega), spl, List.append_assoc, List.take_append_of_le_length (by rw [List.length_take]; omega), List.take_take, Nat.min_self]
  have e2 : ((spl us j ds).set (j + n) t).drop (j + n) = t :: us.drop (j + n + 1) := by
    have hl : ((us.take j) ++ ds).length = j + n := by rw [List.length_append, List.length_take, hd]; omega
    have e3 : us.drop (j + n) = nth us (j + n) :: us.drop (j + n + 1) := by rw [List.drop_eq_getElem_cons h, nth_lt h]
    rw [spl, hd, e3, List.set_append_right _ _ (by omega), hl, Nat.sub_self, List.set_cons_zero, List.drop_append, hl, Nat.sub_self, List.drop_of_length_le (by omega)]
    rfl
  rw [spl, e1, hb, e2, spl, hb]
  have hl : ((us.take j) ++ bs).length = j + n := by rw [List.length_append, List.length_take, hb]; omega
  have e3 : us.drop (j + n) = nth us (j + n) :: us.drop (j + n + 1) := by rw [List.drop_eq_getElem_cons h, nth_lt h]
  rw [e3, List.set_append_right _ _ (by omega), List.set_append_right _ _ (by omega), hl, Nat.sub_self, List.set_cons_zero, List.set_cons_zero]
theorem spl_get {us ds : List Nat} {j n t : Nat} (h : j + n < us.length) (hd : ds.length = n) : nth ((spl us j ds).set (j + n) t) (j + n) = t := by
  rw [nth, List.getElem?_set_self (by rw [spl_len (by omega)]; omega), Option.getD_some]
theorem spl_keep {us ds : List Nat} {j n : Nat} (h : j + n < us.length) (hd : ds.length = n) : nth (spl us j ds) (j + n) = nth us (j + n) := by
  have hl : ((us.take j) ++ ds).length = j + n := by rw [List.length_append, List.length_take, hd]; omega
  rw [spl, hd, nth, List.getElem?_append_right (by omega), hl, Nat.sub_self, nth, List.getElem?_drop, Nat.add_zero]
theorem spl_mid' {us ds : List Nat} {j n t : Nat} (h : j + n < us.length) (hd : ds.length = n) : (((spl us j ds).set (j + n) t).drop j).take n = ds := by
  rw [List.drop_set, if_neg (by omega), show j + n - j = n by omega, List.take_set_of_le (Nat.le_refl _), spl, List.append_assoc, List.drop_append_of_le_length (by rw [List.length_take]; omega)]
  rw [List.drop_of_length_le (by rw [List.length_take]; omega), List.nil_append, List.take_append_of_le_length (by omega), List.take_of_length_le (by omega)]
theorem KI.end {x y s n N : Nat} {us qs : List Nat} (h : KI (x * 2 ^ s) (y * 2 ^ s) n N 0 us qs) (hV : y * 2 ^ s < W ^ n) : val W (us.take n) = x % y * 2 ^ s ∧ val W qs = x / y := by
  obtain ⟨h1, h2⟩ := h.done
  have hp : 0 < 2 ^ s := Nat.pow_pos (by omega)
  have h3 := h.2.2.1
  rw [Nat.pow_zero, Nat.mul_one] at h3
  refine ⟨?_, by rw [h2, Nat.mul_div_mul_right _ _ hp]⟩
  have e := val_cutW us n
  obtain ⟨p1, p2, p3⟩ := h.1
  rw [Nat.min_eq_left (by omega), h1, Nat.mul_mod_mul_right] at e
  rw [h1, Nat.mul_mod_mul_right] at h3
  rcases Nat.eq_zero_or_pos (val W (us.drop n)) with h0 | h0
  · rw [h0, Nat.mul_zero, Nat.add_zero] at e; exact e.symm
  · have := Nat.mul_le_mul_left (W ^ n) h0
    omega
end Go.Proofs.YtamfhmmcnlollaaGreat
