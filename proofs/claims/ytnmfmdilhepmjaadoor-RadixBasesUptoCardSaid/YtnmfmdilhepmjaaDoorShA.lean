/-
  Shifts: the numbers of limb.Shl, limb.Shr.
-/
import Derived.Test.YtnmfmdilhepmjaaDoorSumL
import Derived.Test.YtnmfmdilhepmjaaDoorFlt
namespace Go.Proofs.YtnmfmdilhepmjaaDoor
open Go.RowKit
set_option linter.unusedVariables false

theorem W_two {r : Nat} (hr : r ≤ 64) : W = 2 ^ r * 2 ^ (64 - r) := by
  rw [← Nat.pow_add, show r + (64 - r) = 64 by omega]
  rfl
theorem W_pow2 (n : Nat) : W ^ n = 2 ^ (64 * n) := by
  rw [show W = 2 ^ 64 from rfl, ← Nat.pow_mul]
theorem two_pos (n : Nat) : 0 < 2 ^ n := Nat.pow_pos (by omega)
/-- the word that a shift to the left gives, and what goes over -/
theorem shl_word {x r low : Nat} (hx : x < W) (hr0 : 0 < r) (hr : r < 64) (hl : low < 2 ^ r) :
    bits .or .u64 (IntKind.u64.wrap ((x : Int) * 2 ^ r)) (low : Int) = ((lo (x * 2 ^ r) + low : Nat) : Int) ∧ (x : Int) / 2 ^ (64 - r) = ((hi (x * 2 ^ r) : Nat) : Int) ∧ lo (x * 2 ^ r) + low < W ∧ hi (x * 2 ^ r) < 2 ^ r := by
  have hW := W_two (r := r) (by omega)
  have h2 := two_pos (64 - r)
  have e1 : lo (x * 2 ^ r) = 2 ^ r * (x % 2 ^ (64 - r)) := by
    rw [lo, hW, Nat.mul_comm x, Nat.mul_mod_mul_left]
  have e2 : hi (x * 2 ^ r) = x / 2 ^ (64 - r) := by
    rw [hi, hW, Nat.mul_comm x, Nat.mul_div_mul_left _ _ (two_pos r)]
  have e3 : x % 2 ^ (64 - r) < 2 ^ (64 - r) := Nat.mod_lt _ h2
  have e4 : lo (x * 2 ^ r) + low < W := by
    rw [e1, hW]
    have : 2 ^ r * (x % 2 ^ (64 - r) + 1) ≤ 2 ^ r * 2 ^ (64 - r) := Nat.mul_le_mul_left _ e3
    rw [Nat.mul_succ] at this
    omega
  have e5 : hi (x * 2 ^ r) < 2 ^ r := by
    rw [e2]
    refine Nat.div_lt_of_lt_mul ?_
    rw [Nat.mul_comm, ← hW]
    exact hx
  refine ⟨?_, ?_, e4, e5⟩
  · have c1 : ((x : Int) * 2 ^ r) = ((x * 2 ^ r : Nat) : Int) := by rw [Int.natCast_mul, Int.natCast_pow]; rfl
    rw [c1, wrapM]
    have h := bits_or_u64_nat (lo (x * 2 ^ r)) low (lo_lt _) (by rw [W_eq] at e4; omega)
    rw [h]
    congr 1
    rw [e1, ← Nat.two_pow_add_eq_or_of_lt hl]
  · rw [e2]
    rw [Int.natCast_ediv, Int.natCast_pow]
    rfl

/-- k words are shifted -/
def ShlI (xs : List Nat) (ws r k low : Nat) (outs : List Nat) : Prop :=
  All W outs ∧ outs.length = ws + k ∧ low < 2 ^ r ∧ val W outs + W ^ (ws + k) * low = val W (xs.take k) * 2 ^ r * W ^ ws
theorem ShlI.zero (xs : List Nat) (ws r : Nat) : ShlI xs ws r 0 0 (List.replicate ws 0) := ⟨All.replicate W_pos, by simp, two_pos r, by simp [val, val_replicate]⟩
theorem ShlI.step {xs outs : List Nat} {ws r k low : Nat} (h : ShlI xs ws r k low outs) (hx : All W xs) (hr0 : 0 < r) (hr : r < 64) : ShlI xs ws r (k + 1) (hi (nth xs k * 2 ^ r)) (outs ++ [lo (nth xs k * 2 ^ r) + low]) := by
  obtain ⟨h1, h2, h3, h4⟩ := h
  obtain ⟨_, _, e3, e4⟩ := shl_word (hx.nth W_pos k) hr0 hr h3
  refine ⟨h1.append (All.cons e3 All.nil), by simp [h2]; omega, e4, ?_⟩
  have e := lo_hi (nth xs k * 2 ^ r)
  rw [val_append, val_take_succ', h2, Nat.add_mul, Nat.add_mul, ← h4]
  generalize lo (nth xs k * 2 ^ r) = l at *
  generalize hi (nth xs k * 2 ^ r) = g at *
  have e2 : W ^ k * nth xs k * 2 ^ r * W ^ ws = W ^ (ws + k) * (l + W * g) := by
    rw [e, Nat.pow_add, Nat.mul_assoc (W ^ k), Nat.mul_comm (W ^ ws) (W ^ k), Nat.mul_assoc (W ^ k), Nat.mul_assoc (W ^ k), Nat.mul_comm (W ^ ws)]
  rw [e2]
  simp only [val, Nat.mul_zero, Nat.add_zero]
  have e5 : W ^ (ws + (k + 1)) * g = W ^ (ws + k) * (W * g) := by rw [← Nat.add_assoc, Nat.pow_succ, Nat.mul_assoc]
  rw [e5, Nat.mul_add, Nat.mul_add]
  omega
/-- how many words a shift gives -/
def shlLen (n s : Nat) : Nat := n + s / 64 + (if 0 < s % 64 then 1 else 0)
theorem two_split (s : Nat) : 2 ^ s = 2 ^ (s % 64) * W ^ (s / 64) := by
  rw [W_pow2, ← Nat.pow_add]
  congr 1
  omega
theorem ShlI.done {xs outs : List Nat} {s n low : Nat} (h : ShlI xs (s / 64) (s % 64) n low outs) (hn : xs.length = n) (hr : 0 < s % 64) (hl : low < W) : outs ++ [low] = wds W (shlLen n s) (val W xs * 2 ^ s) := by
  obtain ⟨h1, h2, h3, h4⟩ := h
  rw [val_take_ge (by omega)] at h4
  have hv : val W (outs ++ [low]) = val W xs * 2 ^ s := by
    rw [val_append, h2, two_split s, ← Nat.mul_assoc, ← h4]
    simp [val]
  have ha := h1.append (All.cons hl All.nil)
  have hlen : (outs ++ [low]).length = shlLen n s := by rw [shlLen, if_pos hr]; simp [h2]; omega
  refine eq_wds ha hlen ?_
  rw [hv, Nat.mod_eq_of_lt]
  have := val_lt ha
  rw [hlen, hv] at this
  exact this
theorem shl_whole {xs : List Nat} {s n : Nat} (hx : All W xs) (hn : xs.length = n) (hr : s % 64 = 0) : List.replicate (s / 64) 0 ++ xs = wds W (shlLen n s) (val W xs * 2 ^ s) := by
  have ha : All W (List.replicate (s / 64) 0 ++ xs) := (All.replicate W_pos).append hx
  have hlen : (List.replicate (s / 64) 0 ++ xs).length = shlLen n s := by rw [shlLen, if_neg (by omega)]; simp [hn]; omega
  have hv : val W (List.replicate (s / 64) 0 ++ xs) = val W xs * 2 ^ s := by
    rw [val_append, val_replicate, two_split s, hr]
    simp
    rw [Nat.mul_comm]
  refine eq_wds ha hlen ?_
  rw [hv, Nat.mod_eq_of_lt]
  have := val_lt ha
  rw [hlen, hv] at this
  exact this

/-- the word that a shift to the right gives -/
def shrw (a b r : Nat) : Nat := a / 2 ^ r + lo (b * 2 ^ (64 - r))
theorem shr_word {a b r : Nat} (ha : a < W) (hr0 : 0 < r) (hr : r < 64) : shrw a b r < W ∧ ∀ c, (a + W * (b + W * c)) / 2 ^ r % W = shrw a b r := by
  have hW := W_two (r := r) (by omega)
  have h2 := two_pos (64 - r)
  have e1 : lo (b * 2 ^ (64 - r)) = 2 ^ (64 - r) * (b % 2 ^ r) := by
    rw [lo, hW, Nat.mul_comm b, Nat.mul_comm (2 ^ r), Nat.mul_mod_mul_left]
  have e2 : a / 2 ^ r < 2 ^ (64 - r) := by
    refine Nat.div_lt_of_lt_mul ?_
    rw [← hW]; exact ha
  have e3 : b % 2 ^ r < 2 ^ r := Nat.mod_lt _ (two_pos r)
  have e4 : shrw a b r < W := by
    unfold shrw
    rw [e1, hW]
    have : 2 ^ (64 - r) * (b % 2 ^ r + 1) ≤ 2 ^ (64 - r) * 2 ^ r := Nat.mul_le_mul_left _ e3
    rw [Nat.mul_succ, Nat.mul_comm _ (2 ^ r)] at this
    omega
  refine ⟨e4, fun c => ?_⟩
  have e5 : a + W * (b + W * c) = a + 2 ^ r * (2 ^ (64 - r) * (b + W * c)) := by rw [← Nat.mul_assoc, ← hW]
  rw [e5, Nat.add_mul_div_left _ _ (two_pos r)]
  have e6 : 2 ^ (64 - r) * (b + W * c) = lo (b * 2 ^ (64 - r)) + W * (hi (b * 2 ^ (64 - r)) + 2 ^ (64 - r) * c) := by
    have := lo_hi (b * 2 ^ (64 - r))
    rw [Nat.mul_add, Nat.mul_add, ← Nat.add_assoc, this, Nat.mul_comm b, ← Nat.mul_assoc, ← Nat.mul_assoc, Nat.mul_comm W]
  rw [e6, ← Nat.add_assoc, Nat.add_mul_mod_self_left]
  exact Nat.mod_eq_of_lt e4
theorem val_nth (ys : List Nat) (j : Nat) : val W (ys.drop j) = nth ys j + W * val W (ys.drop (j + 1)) := by
  by_cases h : j < ys.length
  · rw [List.drop_eq_getElem_cons h, val, nth_lt h]
  · rw [List.drop_of_length_le (by omega), List.drop_of_length_le (by omega), nth_ge (by omega)]; simp [val]
theorem val_drop_div {ys : List Nat} (h : All W ys) (j : Nat) : val W (ys.drop j) = val W ys / W ^ j := by
  have a := val_append (b := W) (ys.take j) (ys.drop j)
  have b := val_take_lt h W_pos j
  rw [List.take_append_drop] at a
  by_cases hj : j ≤ ys.length
  · rw [List.length_take, Nat.min_eq_left hj] at a
    rw [a, Nat.add_mul_div_left _ _ (Nat.pow_pos W_pos), Nat.div_eq_of_lt b, Nat.zero_add]
  · rw [List.drop_of_length_le (by omega)]
    have := val_lt h
    have h2 : W ^ ys.length ≤ W ^ j := Nat.pow_le_pow_right W_pos (by omega)
    rw [Nat.div_eq_of_lt (by omega)]
    rfl
theorem shr_nth {ys : List Nat} (h : All W ys) (r j : Nat) (hr : r < 64) : val W ys / 2 ^ r / W ^ j % W = if r = 0 then nth ys j else shrw (nth ys j) (nth ys (j + 1)) r := by
  have e : val W ys / 2 ^ r / W ^ j = val W (ys.drop j) / 2 ^ r := by rw [val_drop_div h, Nat.div_div_eq_div_mul, Nat.div_div_eq_div_mul, Nat.mul_comm]
  rw [e]
  by_cases h0 : r = 0
  · rw [if_pos h0, h0, Nat.pow_zero, Nat.div_one, val_nth, Nat.add_mul_mod_self_left, Nat.mod_eq_of_lt (h.nth W_pos j)]
  · rw [if_neg h0, val_nth, val_nth]
    exact (shr_word (h.nth W_pos j) (by omega) hr).2 _
/-- k words are shifted to the right -/
def ShrI (xs : List Nat) (ws r m k : Nat) (outs : List Nat) : Prop :=
  All W outs ∧ outs.length = m ∧ ∀ j, j < k → nth outs j = if r = 0 then nth xs (ws + j) else shrw (nth xs (ws + j)) (nth xs (ws + j + 1)) r
theorem ShrI.step {xs outs : List Nat} {ws r m k x : Nat} (h : ShrI xs ws r m k outs) (hx : x < W) (hk : k < m) (e : x = if r = 0 then nth xs (ws + k) else shrw (nth xs (ws + k)) (nth xs (ws + k + 1)) r) : ShrI xs ws r m (k + 1) (outs.set k x) := by
  obtain ⟨h1, h2, h3⟩ := h
  refine ⟨h1.set hx k, by simpa using h2, fun j hj => ?_⟩
  by_cases hjk : j = k
  · subst hjk; rw [nth_set_eq (by omega), e]
  · rw [nth_set_ne (by omega)]; exact h3 j (by omega)
theorem ShrI.done {xs outs : List Nat} {s n : Nat} (h : ShrI xs (s / 64) (s % 64) (n - s / 64) (n - s / 64) outs) (hx : All W xs) (hn : xs.length = n) : outs = wds W (n - s / 64) (val W xs / 2 ^ s) := by
  obtain ⟨h1, h2, h3⟩ := h
  refine eq_of_nth (by rw [h2, wds_length]) fun i hi => ?_
  rw [h2] at hi
  rw [h3 i hi, nth_wds hi]
  have e : val W xs / 2 ^ s = val W (xs.drop (s / 64)) / 2 ^ (s % 64) := by
    rw [two_split s, val_drop_div hx, Nat.div_div_eq_div_mul, Nat.mul_comm]
  rw [e, shr_nth (hx.drop _) _ _ (by omega)]
  have d : ∀ j, nth (xs.drop (s / 64)) j = nth xs (s / 64 + j) := fun j => by simp [nth]
  rw [d, d]
  rfl
theorem strip_nil_iff {xs : List Nat} (h : All W xs) : (strip xs).length = 0 ↔ val W xs = 0 := by
  rw [strip_eq_dg W_gt h]
  constructor
  · intro h0
    exact (dg_nil_iff W_gt).1 (List.eq_nil_of_length_eq_zero h0)
  · intro h0; rw [h0, dg_zero W_gt]; rfl
/-- what goes away -/
theorem lost_eq {xs : List Nat} (h : All W xs) (s : Nat) : val W xs % 2 ^ s = val W (xs.take (s / 64)) + W ^ (s / 64) * (nth xs (s / 64) % 2 ^ (s % 64)) := by
  have b := val_take_lt h W_pos (s / 64)
  have e : val W xs = val W (xs.take (s / 64)) + W ^ (s / 64) * val W (xs.drop (s / 64)) := by
    have a := val_append (b := W) (xs.take (s / 64)) (xs.drop (s / 64))
    rw [List.take_append_drop] at a
    by_cases hj : s / 64 ≤ xs.length
    · rw [List.length_take, Nat.min_eq_left hj] at a
      exact a
    · rw [List.take_of_length_le (by omega), List.drop_of_length_le (by omega)]; simp [val]
  have e2 : val W (xs.drop (s / 64)) % 2 ^ (s % 64) = nth xs (s / 64) % 2 ^ (s % 64) := by
    rw [val_nth]
    have : W = 2 ^ (s % 64) * 2 ^ (64 - s % 64) := W_two (by omega)
    rw [this, Nat.mul_assoc, Nat.add_mul_mod_self_left]
  rw [two_split s, Nat.mul_comm, Nat.mod_mul, ← e2]
  have e3 : val W xs % W ^ (s / 64) = val W (xs.take (s / 64)) := by rw [e, Nat.add_mul_mod_self_left, Nat.mod_eq_of_lt b]
  have e4 : val W xs / W ^ (s / 64) = val W (xs.drop (s / 64)) := by rw [val_drop_div h]
  rw [e3, e4]
theorem shl_gone {x r : Nat} (hr : r ≤ 64) : lo (x * 2 ^ (64 - r)) = 0 ↔ x % 2 ^ r = 0 := by
  have hW := W_two hr
  have e1 : lo (x * 2 ^ (64 - r)) = 2 ^ (64 - r) * (x % 2 ^ r) := by
    rw [lo, hW, Nat.mul_comm x, Nat.mul_comm (2 ^ r), Nat.mul_mod_mul_left]
  rw [e1, Nat.mul_eq_zero]
  have := two_pos (64 - r)
  omega
end Go.Proofs.YtnmfmdilhepmjaaDoor
