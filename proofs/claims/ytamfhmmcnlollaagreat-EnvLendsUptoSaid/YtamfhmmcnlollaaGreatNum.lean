/-
  Plain numbers: lists of digits and their values. No program, no memory.
-/
import Derived.Test.YtamfhmmcnlollaaGreatMem
namespace Go.Proofs.YtamfhmmcnlollaaGreat
set_option linter.unusedVariables false

/-- the word's base -/
def W : Nat := 18446744073709551616
theorem W_eq : W = 18446744073709551616 := rfl
theorem W_pos : 0 < W := by decide
def lo (x : Nat) : Nat := x % W
def hi (x : Nat) : Nat := x / W
theorem lo_hi (x : Nat) : lo x + W * hi x = x := Nat.mod_add_div x W
theorem lo_lt (x : Nat) : lo x < W := Nat.mod_lt _ W_pos

/-- the value of digits, the lowest first -/
def val (b : Nat) : List Nat → Nat
  | [] => 0
  | x :: xs => x + b * val b xs

/-- all digits below b -/
def All (b : Nat) (xs : List Nat) : Prop := ∀ x ∈ xs, x < b

/-- n digits of x -/
def wds (b : Nat) : Nat → Nat → List Nat
  | 0, _ => []
  | n + 1, x => x % b :: wds b n (x / b)

/-- without the zeros at the top -/
def strip (xs : List Nat) : List Nat := (xs.reverse.dropWhile (· == 0)).reverse

/-- the digits of x, none 0 at the top -/
def dg (b x : Nat) : List Nat := strip (wds b (x + 1) x)

section
variable {b : Nat}
theorem All.nil : All b [] := by intro x h; cases h
theorem All.cons {x : Nat} {xs : List Nat} (h : x < b) (h' : All b xs) : All b (x :: xs) := by
  intro y hy; cases hy with | head => exact h | tail _ hy => exact h' y hy
theorem All.head {x : Nat} {xs : List Nat} (h : All b (x :: xs)) : x < b := h x (by simp)
theorem All.tail {x : Nat} {xs : List Nat} (h : All b (x :: xs)) : All b xs := fun y hy => h y (by simp [hy])
theorem All.append {xs ys : List Nat} (h : All b xs) (h' : All b ys) : All b (xs ++ ys) := by
  intro y hy
  rcases List.mem_append.1 hy with h1 | h1
  · exact h y h1
  · exact h' y h1
theorem All.take {xs : List Nat} (h : All b xs) (n : Nat) : All b (xs.take n) := fun y hy => h y (List.mem_of_mem_take hy)
theorem All.drop {xs : List Nat} (h : All b xs) (n : Nat) : All b (xs.drop n) := fun y hy => h y (List.mem_of_mem_drop hy)
theorem All.nth {xs : List Nat} (h : All b xs) (hb : 0 < b) (i : Nat) : nth xs i < b := by
  by_cases hi : i < xs.length
  · rw [nth_lt hi]; exact h _ (List.getElem_mem hi)
  · rw [nth_ge (by omega)]; exact hb
theorem All.set {xs : List Nat} (h : All b xs) {x : Nat} (hx : x < b) (i : Nat) : All b (xs.set i x) := by
  intro y hy
  rcases List.mem_or_eq_of_mem_set hy with h1 | h1
  · exact h y h1
  · subst h1; exact hx
theorem All.replicate {n : Nat} (hb : 0 < b) : All b (List.replicate n 0) := by
  intro y hy; have := List.eq_of_mem_replicate hy; omega

theorem val_append (xs ys : List Nat) : val b (xs ++ ys) = val b xs + b ^ xs.length * val b ys := by
  induction xs with
  | nil => simp [val]
  | cons x xs ih => simp only [List.cons_append, val, ih, List.length_cons, Nat.pow_succ]; rw [Nat.mul_add, Nat.mul_comm (b ^ _) b, Nat.mul_assoc]; omega
theorem val_lt {xs : List Nat} (h : All b xs) : val b xs < b ^ xs.length := by
  induction xs with
  | nil => simp [val]
  | cons x xs ih =>
    have h1 := ih h.tail
    have h2 := h.head
    simp only [val, List.length_cons, Nat.pow_succ]
    have : b * (val b xs + 1) ≤ b * b ^ xs.length := Nat.mul_le_mul_left b h1
    rw [Nat.mul_comm (b ^ xs.length) b]
    rw [Nat.mul_add] at this
    omega
theorem val_replicate (n : Nat) : val b (List.replicate n 0) = 0 := by
  induction n with
  | zero => rfl
  | succ n ih => simp [List.replicate_succ, val, ih]
theorem wds_length (n x : Nat) : (wds b n x).length = n := by
  induction n generalizing x with
  | zero => rfl
  | succ n ih => simp [wds, ih]
theorem wds_all (hb : 0 < b) (n x : Nat) : All b (wds b n x) := by
  induction n generalizing x with
  | zero => exact All.nil
  | succ n ih => exact All.cons (Nat.mod_lt _ hb) (ih _)
theorem val_wds (n x : Nat) : val b (wds b n x) = x % b ^ n := by
  induction n generalizing x with
  | zero => simp [wds, val, Nat.mod_one]
  | succ n ih =>
    simp only [wds, val, ih, Nat.pow_succ]
    rw [Nat.mul_comm (b ^ n) b, Nat.mod_mul]
theorem wds_val {xs : List Nat} (h : All b xs) : wds b xs.length (val b xs) = xs := by
  induction xs with
  | nil => rfl
  | cons x xs ih =>
    have h2 := h.head
    have hb : 0 < b := by omega
    simp only [List.length_cons, wds, val]
    rw [Nat.add_mul_mod_self_left, Nat.mod_eq_of_lt h2, Nat.add_mul_div_left _ _ hb, Nat.div_eq_of_lt h2, Nat.zero_add, ih h.tail]
theorem eq_of_val {xs ys : List Nat} (hx : All b xs) (hy : All b ys) (hl : xs.length = ys.length) (hv : val b xs = val b ys) : xs = ys := by
  rw [← wds_val hx, ← wds_val hy, hl, hv]
theorem eq_wds {xs : List Nat} {n x : Nat} (hx : All b xs) (hl : xs.length = n) (hv : val b xs = x % b ^ n) : xs = wds b n x := by
  have hb : 0 < b ∨ xs = [] := by
    cases xs with
    | nil => exact .inr rfl
    | cons y ys => exact .inl (by have := hx.head; omega)
  rcases hb with hb | rfl
  · exact eq_of_val hx (wds_all hb _ _) (by rw [wds_length, hl]) (by rw [val_wds, hv])
  · subst hl; rfl

-- the top
theorem strip_snoc_zero (xs : List Nat) : strip (xs ++ [0]) = strip xs := by simp [strip]
theorem strip_snoc {xs : List Nat} {x : Nat} (h : x ≠ 0) : strip (xs ++ [x]) = xs ++ [x] := by simp [strip, h]
theorem snoc_cases (xs : List Nat) : xs = [] ∨ ∃ ys y, xs = ys ++ [y] := by
  rcases List.eq_nil_or_concat xs with h | ⟨ys, y, h⟩
  · exact .inl h
  · exact .inr ⟨ys, y, by simpa using h⟩
theorem strip_ind {motive : List Nat → Prop} (h0 : motive []) (hz : ∀ xs, motive xs → motive (xs ++ [0])) (hs : ∀ xs x, x ≠ 0 → motive (xs ++ [x])) (xs : List Nat) : motive xs := by
  generalize hn : xs.length = n
  induction n generalizing xs with
  | zero => rw [List.eq_nil_of_length_eq_zero hn]; exact h0
  | succ n ih =>
    rcases snoc_cases xs with rfl | ⟨ys, y, rfl⟩
    · exact h0
    · by_cases hy : y = 0
      · subst hy; exact hz _ (ih ys (by simpa using hn))
      · exact hs _ _ hy
theorem strip_val (xs : List Nat) : val b (strip xs) = val b xs := by
  induction xs using strip_ind with
  | h0 => rfl
  | hz xs ih => rw [strip_snoc_zero, ih, val_append]; simp [val]
  | hs xs x h => rw [strip_snoc h]
theorem strip_all {xs : List Nat} (h : All b xs) : All b (strip xs) := by
  induction xs using strip_ind with
  | h0 => exact h
  | hz xs ih => rw [strip_snoc_zero]; exact ih fun y hy => h y (by simp [hy])
  | hs xs x hx => rw [strip_snoc hx]; exact h
theorem strip_length_le (xs : List Nat) : (strip xs).length ≤ xs.length := by
  induction xs using strip_ind with
  | h0 => exact Nat.le_refl _
  | hz xs ih => rw [strip_snoc_zero]; simp; omega
  | hs xs x hx => rw [strip_snoc hx]; exact Nat.le_refl _
theorem strip_idem (xs : List Nat) : strip (strip xs) = strip xs := by
  induction xs using strip_ind with
  | h0 => rfl
  | hz xs ih => rw [strip_snoc_zero, ih]
  | hs xs x hx => rw [strip_snoc hx, strip_snoc hx]
/-- in its own form -/
def Norm (xs : List Nat) : Prop := strip xs = xs
theorem strip_take (xs : List Nat) : strip xs = xs.take (strip xs).length := by
  induction xs using strip_ind with
  | h0 => rfl
  | hz xs ih =>
    rw [strip_snoc_zero, List.take_append_of_le_length (strip_length_le xs)]; exact ih
  | hs xs x hx => rw [strip_snoc hx, List.take_length]
theorem norm_ge {xs : List Nat} (h : Norm xs) (hn : xs ≠ []) : b ^ (xs.length - 1) ≤ val b xs := by
  rcases snoc_cases xs with rfl | ⟨ys, y, rfl⟩
  · exact absurd rfl hn
  · by_cases hy : y = 0
    · subst hy
      unfold Norm at h
      rw [strip_snoc_zero] at h
      have := strip_length_le ys
      rw [h] at this
      simp at this
      omega
    · rw [val_append]
      simp only [List.length_append, List.length_cons, List.length_nil, val, Nat.mul_zero, Nat.add_zero, Nat.zero_add, Nat.add_sub_cancel]
      have : b ^ ys.length * 1 ≤ b ^ ys.length * y := Nat.mul_le_mul_left _ (by omega)
      omega
theorem norm_eq {xs ys : List Nat} (hb : 1 < b) (hx : All b xs) (hy : All b ys) (nx : Norm xs) (ny : Norm ys) (hv : val b xs = val b ys) : xs = ys := by
  have key : ∀ {xs ys : List Nat}, All b xs → All b ys → Norm ys → val b xs = val b ys → ys.length ≤ xs.length := by
    intro xs ys hx hy ny hv
    by_cases hn : ys = []
    · subst hn; simp
    · have h1 := norm_ge (b := b) ny hn
      have h2 := val_lt hx
      have h3 : b ^ (ys.length - 1) < b ^ xs.length := by omega
      have := (Nat.pow_lt_pow_iff_right hb).1 h3
      omega
  exact eq_of_val hx hy (Nat.le_antisymm (key hy hx nx hv.symm) (key hx hy ny hv)) hv
theorem lt_pow_self (hb : 1 < b) (x : Nat) : x < b ^ x := Nat.lt_pow_self hb
theorem dg_all (hb : 1 < b) (x : Nat) : All b (dg b x) := strip_all (wds_all (by omega) _ _)
theorem dg_norm (x : Nat) : Norm (dg b x) := strip_idem _
theorem dg_val (hb : 1 < b) (x : Nat) : val b (dg b x) = x := by
  rw [dg, strip_val, val_wds, Nat.mod_eq_of_lt]
  have := lt_pow_self hb x
  have h2 : b ^ x ≤ b ^ (x + 1) := Nat.pow_le_pow_right (by omega) (by omega)
  omega
theorem strip_eq_dg (hb : 1 < b) {xs : List Nat} (h : All b xs) : strip xs = dg b (val b xs) :=
  norm_eq hb (strip_all h) (dg_all hb _) (strip_idem _) (dg_norm _) (by rw [strip_val, dg_val hb])
theorem norm_dg (hb : 1 < b) {xs : List Nat} (h : All b xs) (hn : Norm xs) : xs = dg b (val b xs) := by
  rw [← strip_eq_dg hb h]; exact hn.symm
theorem dg_len (hb : 1 < b) {x n : Nat} (h : x < b ^ n) : (dg b x).length ≤ n := by
  have := strip_eq_dg hb (wds_all (b := b) (by omega) n x)
  rw [val_wds, Nat.mod_eq_of_lt h] at this
  rw [← this]
  have := strip_length_le (wds b n x)
  rwa [wds_length] at this
theorem dg_zero (hb : 1 < b) : dg b 0 = [] := by
  have := dg_len hb (x := 0) (n := 0) (by simp)
  exact List.eq_nil_of_length_eq_zero (by omega)
theorem dg_nil_iff (hb : 1 < b) {x : Nat} : dg b x = [] ↔ x = 0 := by
  constructor
  · intro h; have := dg_val hb x; rw [h] at this; simpa [val] using this.symm
  · rintro rfl; exact dg_zero hb
theorem val_take_succ {xs : List Nat} (i : Nat) (h : i < xs.length) : val b (xs.take (i + 1)) = val b (xs.take i) + b ^ i * nth xs i := by
  rw [List.take_succ_eq_append_getElem h, val_append, nth_lt h]
  simp [val, List.length_take, Nat.min_eq_left (Nat.le_of_lt h)]
theorem val_take_ge {xs : List Nat} {i : Nat} (h : xs.length ≤ i) : val b (xs.take i) = val b xs := by rw [List.take_of_length_le h]
theorem val_take_succ' (xs : List Nat) (i : Nat) : val b (xs.take (i + 1)) = val b (xs.take i) + b ^ i * nth xs i := by
  by_cases h : i < xs.length
  · exact val_take_succ i h
  · rw [val_take_ge (by omega), val_take_ge (by omega), nth_ge (by omega)]; simp
end
theorem W_gt : 1 < W := by decide
end Go.Proofs.YtamfhmmcnlollaaGreat
