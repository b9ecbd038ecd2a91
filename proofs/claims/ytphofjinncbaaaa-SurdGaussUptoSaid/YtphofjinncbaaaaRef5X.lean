/-
  The document's tools of arithmetic in numbers: rows of a product in place; take (a multiple less, in place); long division. No program here. The document's tools of arithmetic (surdref05): cut, digits, number, Norm, Word, one, ones, of, Plus. The document's tools of arithmetic (surdref05): one, ones, of, Word, Plus, times, Times. The document's tools of arithmetic (surdref05): times, Times. The document's tools of arithmetic (surdref05): higher, take. The document's tools of arithmetic (surdref05): divide, Quo.
-/
import Derived.Test.YtphofjinncbaaaaRef1D
import Derived.Test.YtphofjinncbaaaaRef1E
import Derived.BigQuiet
import Derived.Test.YtphofjinncbaaaaFixed
import Derived.Test.YtphofjinncbaaaaDivP
import Derived.Test.YtphofjinncbaaaaNatC
namespace Go.Proofs.Ytphofjinncbaaaa
set_option linter.unusedVariables false

/-- the product's rows: i rows are done, in the next one k places; c is carried -/
def TimJ (xs ys ss : List Nat) (i k cn : Nat) : Prop :=
  All D ss ∧ ss.length = xs.length + ys.length ∧ cn < D ∧ (∀ j, i + ys.length ≤ j → nth ss j = 0) ∧ val D ss + D ^ (i + k) * cn = val D (xs.take i) * val D ys + D ^ i * (nth xs i * val D (ys.take k))
theorem TimJ.start {xs ys ss : List Nat} {i : Nat} (h1 : All D ss) (h2 : ss.length = xs.length + ys.length) (h3 : ∀ j, i + ys.length ≤ j → nth ss j = 0) (h4 : val D ss = val D (xs.take i) * val D ys) : TimJ xs ys ss i 0 0 :=
  ⟨h1, h2, D_pos, h3, by rw [h4]; simp [val]⟩
theorem TimJ.step {xs ys ss : List Nat} {i k cn : Nat} (h : TimJ xs ys ss i k cn) (hx : All D xs) (hy : All D ys) (hi : i < xs.length) (hk : k < ys.length) :
    TimJ xs ys (ss.set (i + k) ((cn + nth ss (i + k) + nth xs i * nth ys k) % 65536)) i (k + 1) ((cn + nth ss (i + k) + nth xs i * nth ys k) / 65536) := by
  obtain ⟨h1, h2, h3, h4, h5⟩ := h
  have a1 := hx.nth D_pos i
  have a2 := hy.nth D_pos k
  have a3 := h1.nth D_pos (i + k)
  have a4 : nth xs i * nth ys k ≤ 65535 * 65535 := Nat.mul_le_mul (by rw [D_eq] at a1; omega) (by rw [D_eq] at a2; omega)
  refine ⟨h1.set (Nat.mod_lt _ D_pos) _, by rw [List.length_set, h2], ?_, fun j hj => ?_, ?_⟩
  · rw [D_eq] at *; omega
  · rw [nth_set_ne (by omega)]; exact h4 j hj
  · have e1 := val_setD (b := D) (xs := ss) (k := i + k) (x := (cn + nth ss (i + k) + nth xs i * nth ys k) % 65536) (by omega)
    have e2 := Nat.mod_add_div (cn + nth ss (i + k) + nth xs i * nth ys k) 65536
    rw [val_take_succ' ys k, show i + (k + 1) = i + k + 1 by omega, Nat.pow_succ, Nat.mul_assoc]
    generalize (cn + nth ss (i + k) + nth xs i * nth ys k) % 65536 = r at *
    generalize (cn + nth ss (i + k) + nth xs i * nth ys k) / 65536 = q at *
    have e3 : D ^ (i + k) * r + D ^ (i + k) * (D * q) = D ^ (i + k) * cn + D ^ (i + k) * nth ss (i + k) + D ^ i * (nth xs i * (D ^ k * nth ys k)) := by
      rw [← Nat.mul_add, D_eq, e2, Nat.mul_add, Nat.mul_add, ← D_eq]
      have : D ^ i * (nth xs i * (D ^ k * nth ys k)) = D ^ (i + k) * (nth xs i * nth ys k) := by
        rw [Nat.pow_add, Nat.mul_left_comm (nth xs i), ← Nat.mul_assoc (D ^ i)]
      rw [this]
    rw [Nat.mul_add (nth xs i), Nat.mul_add (D ^ i)]
    omega
theorem TimJ.done {xs ys ss : List Nat} {i cn : Nat} (h : TimJ xs ys ss i ys.length cn) (hi : i < xs.length) :
    All D (ss.set (i + ys.length) cn) ∧ (ss.set (i + ys.length) cn).length = xs.length + ys.length ∧ (∀ j, i + 1 + ys.length ≤ j → nth (ss.set (i + ys.length) cn) j = 0) ∧ val D (ss.set (i + ys.length) cn) = val D (xs.take (i + 1)) * val D ys := by
  obtain ⟨h1, h2, h3, h4, h5⟩ := h
  refine ⟨h1.set h3 _, by rw [List.length_set, h2], fun j hj => ?_, ?_⟩
  · rw [nth_set_ne (by omega)]; exact h4 j (by omega)
  · have e1 := val_setD (b := D) (xs := ss) (k := i + ys.length) (x := cn) (by omega)
    rw [h4 _ (Nat.le_refl _)] at e1
    rw [val_take_succ' xs i, Nat.add_mul, Nat.mul_assoc]
    rw [val_take_ge (xs := ys) (Nat.le_refl _)] at h5
    omega

/-- take: j digits are done; c is lent -/
def TakJ (rs bs ts : List Nat) (k i j cn : Nat) : Prop :=
  All D ts ∧ ts.length = rs.length ∧ cn ≤ k ∧ (∀ t, i + j ≤ t → nth ts t = nth rs t) ∧ val D (ts.take (i + j)) + D ^ i * (k * val D (bs.take j)) = val D (rs.take (i + j)) + D ^ (i + j) * cn
theorem TakJ.step {rs bs ts : List Nat} {k i j cn z m : Nat} (h : TakJ rs bs ts k i j cn) (hb : All D bs) (hj : i + j < rs.length) (hz : z < D) (hm : z + cn + k * nth bs j = nth ts (i + j) + m * D) :
    TakJ rs bs (ts.set (i + j) z) k i (j + 1) m := by
  obtain ⟨h1, h2, h3, h4, h5⟩ := h
  have a1 := hb.nth D_pos j
  have a4 : k * nth bs j ≤ k * 65535 := Nat.mul_le_mul_left _ (by rw [D_eq] at a1; omega)
  have hset : ∀ t, t < i + j → nth (ts.set (i + j) z) t = nth ts t := fun t ht => nth_set_ne (by omega)
  have et : val D ((ts.set (i + j) z).take (i + j)) = val D (ts.take (i + j)) := by
    rw [List.take_set_of_le (Nat.le_refl _)]
  refine ⟨h1.set hz _, by rw [List.length_set, h2], ?_, fun t ht => ?_, ?_⟩
  · have : m * D ≤ k * D + D - 1 := by rw [D_eq] at *; omega
    rw [D_eq] at *; omega
  · rw [nth_set_ne (by omega)]; exact h4 t (by omega)
  · rw [show i + (j + 1) = i + j + 1 by omega, val_take_succ', val_take_succ', val_take_succ', et, nth_set_eq (by omega), ← h4 (i + j) (Nat.le_refl _), Nat.pow_succ, Nat.mul_assoc]
    have e3 : D ^ (i + j) * z + D ^ (i + j) * cn + D ^ i * (k * (D ^ j * nth bs j)) = D ^ (i + j) * nth ts (i + j) + D ^ (i + j) * (D * m) := by
      have : D ^ i * (k * (D ^ j * nth bs j)) = D ^ (i + j) * (k * nth bs j) := by
        rw [Nat.pow_add, Nat.mul_left_comm k, ← Nat.mul_assoc (D ^ i)]
      rw [this, ← Nat.mul_add, ← Nat.mul_add, ← Nat.mul_add, hm, Nat.mul_comm D m]
    rw [Nat.mul_add k, Nat.mul_add (D ^ i)]
    omega
theorem TakJ.done {rs bs ts : List Nat} {k i j cn : Nat} (h : TakJ rs bs ts k i j cn) (hj : i + j = rs.length) (hb : bs.length ≤ j) (hle : D ^ i * (k * val D bs) ≤ val D rs) :
    All D ts ∧ ts.length = rs.length ∧ val D ts = val D rs - D ^ i * (k * val D bs) := by
  obtain ⟨h1, h2, h3, h4, h5⟩ := h
  rw [hj, val_take_ge (xs := ts) (by omega), val_take_ge (xs := rs) (Nat.le_refl _), val_take_ge (xs := bs) hb] at h5
  have hlt := val_lt h1
  rw [h2] at hlt
  refine ⟨h1, h2, ?_⟩
  have hc : cn = 0 := by
    rcases Nat.eq_zero_or_pos cn with h0 | h0
    · exact h0
    · have : D ^ rs.length * 1 ≤ D ^ rs.length * cn := Nat.mul_le_mul_left _ h0
      omega
  subst hc
  rw [Nat.mul_zero] at h5
  omega

/-- long division: the quotient's digits from k on are done; R is left -/
def LngJ (x y k R : Nat) (qs : List Nat) : Prop := All D qs ∧ val D qs * y + R = x ∧ (∀ j, j < k → nth qs j = 0) ∧ R < y * D ^ k
theorem val_div {b : Nat} (hb : 0 < b) {xs : List Nat} (h : All b xs) (k : Nat) : val b (xs.drop k) = val b xs / b ^ k := by
  by_cases hk : k ≤ xs.length
  · have e := val_append (b := b) (xs.take k) (xs.drop k)
    rw [List.take_append_drop, List.length_take, Nat.min_eq_left hk] at e
    have hl := val_lt (h.take k)
    rw [List.length_take, Nat.min_eq_left hk] at hl
    rw [e, Nat.add_mul_div_left _ _ (Nat.pow_pos hb), Nat.div_eq_of_lt hl, Nat.zero_add]
  · rw [List.drop_of_length_le (by omega)]
    have hl := val_lt h
    have : b ^ xs.length ≤ b ^ k := Nat.pow_le_pow_right hb (by omega)
    rw [Nat.div_eq_of_lt (by omega)]
    rfl
/-- within digit i: t of it is done -/
def DigJ (x y i t R : Nat) (qs : List Nat) : Prop := All D qs ∧ i < qs.length ∧ t = nth qs i ∧ val D qs * y + R = x ∧ (∀ j, j < i → nth qs j = 0) ∧ D ^ i * (t * y) + R < y * D ^ (i + 1)
theorem LngJ.digit {x y i R : Nat} {qs : List Nat} (h : LngJ x y (i + 1) R qs) (hi : i < qs.length) : DigJ x y i 0 R qs := by
  obtain ⟨h1, h2, h3, h4⟩ := h
  exact ⟨h1, hi, (h3 i (by omega)).symm, h2, fun j hj => h3 j (by omega), by simpa using h4⟩
theorem DigJ.step {x y i t R k : Nat} {qs : List Nat} (h : DigJ x y i t R qs) (hk : D ^ i * (k * y) ≤ R) (hy : 0 < y) : DigJ x y i (t + k) (R - D ^ i * (k * y)) (qs.set i (t + k)) ∧ t + k < D := by
  obtain ⟨h1, h2, h3, h4, h5, h6⟩ := h
  have e0 : D ^ i * ((t + k) * y) = D ^ i * (t * y) + D ^ i * (k * y) := by rw [Nat.add_mul, Nat.mul_add]
  have ht : t + k < D := by
    have : D ^ i * ((t + k) * y) < y * D ^ (i + 1) := by omega
    rw [Nat.pow_succ, Nat.mul_comm y, Nat.mul_assoc, Nat.mul_comm D y] at this
    have := Nat.lt_of_mul_lt_mul_left this
    rw [Nat.mul_comm y] at this
    exact Nat.lt_of_mul_lt_mul_right this
  refine ⟨⟨h1.set ht _, by rw [List.length_set]; exact h2, (nth_set_eq h2).symm, ?_, fun j hj => ?_, by omega⟩, ht⟩
  · have e1 := val_setD (b := D) (xs := qs) (k := i) (x := t + k) h2
    rw [← h3] at e1
    have e2 : val D (qs.set i (t + k)) = val D qs + D ^ i * k := by rw [Nat.mul_add] at e1; omega
    rw [e2, Nat.add_mul, Nat.mul_assoc]
    omega
  · rw [nth_set_ne (by omega)]; exact h5 j hj
theorem DigJ.done {x y i t R : Nat} {qs : List Nat} (h : DigJ x y i t R qs) (hR : R / D ^ i < y) : LngJ x y i R qs := by
  obtain ⟨h1, h2, h3, h4, h5, h6⟩ := h
  refine ⟨h1, h4, h5, ?_⟩
  rw [Nat.mul_comm]
  exact (Nat.div_lt_iff_lt_mul (Nat.pow_pos D_pos)).1 hR |> fun h => by rwa [Nat.mul_comm] at h
theorem LngJ.done {x y R : Nat} {qs : List Nat} (h : LngJ x y 0 R qs) : val D qs = x / y ∧ R = x % y := by
  obtain ⟨h1, h2, h3, h4⟩ := h
  rw [Nat.pow_zero, Nat.mul_one] at h4
  have hy : 0 < y := by omega
  rw [← h2, Nat.mul_comm, Nat.mul_add_div hy, Nat.mul_add_mod, Nat.div_eq_of_lt h4, Nat.mod_eq_of_lt h4]
  simp
theorem LngJ.start {x y n m : Nat} {N : Nat} (hx : x < D ^ n) (hy : D ^ (m - 1) ≤ y) (hm : 0 < m) (hN : N + m = n + 1) : LngJ x y N x (List.replicate N 0) := by
  refine ⟨All.replicate D_pos, by rw [val_replicate]; simp, fun j hj => by simp [nth, hj], ?_⟩
  have h1 : D ^ (m - 1) * D ^ N ≤ y * D ^ N := Nat.mul_le_mul_right _ hy
  rw [← Nat.pow_add, show m - 1 + N = n by omega] at h1
  omega
/-- the guess is at most what fits -/
theorem guess5 {R y top i m : Nat} (hm : 0 < m) (ht : y < (top) * D ^ (m - 1)) (hR : y ≤ R / D ^ i) : D ^ i * (max 1 (R / D ^ (i + (m - 1)) / top) * y) ≤ R := by
  have hk : max 1 (R / D ^ (i + (m - 1)) / top) * y ≤ R / D ^ i := by
    rcases Nat.le_total (R / D ^ (i + (m - 1)) / top) 1 with h | h
    · rw [Nat.max_eq_left h, Nat.one_mul]; exact hR
    · rw [Nat.max_eq_right h, Nat.pow_add, ← Nat.div_div_eq_div_mul]
      have h1 := Nat.div_mul_le_self (R / D ^ i / D ^ (m - 1)) top
      have h2 := Nat.div_mul_le_self (R / D ^ i) (D ^ (m - 1))
      have h3 : R / D ^ i / D ^ (m - 1) / top * y ≤ R / D ^ i / D ^ (m - 1) / top * (top * D ^ (m - 1)) := Nat.mul_le_mul_left _ (Nat.le_of_lt ht)
      rw [← Nat.mul_assoc] at h3
      have h4 := Nat.mul_le_mul_right (D ^ (m - 1)) h1
      omega
  have h5 := Nat.mul_div_le R (D ^ i)
  have h6 := Nat.mul_le_mul_left (D ^ i) hk
  omega
theorem top_val5 {bs : List Nat} (h : All D bs) (hm : 0 < bs.length) : val D bs < (nth bs (bs.length - 1) + 1) * D ^ (bs.length - 1) := by
  have e := val_take_succ' (b := D) bs (bs.length - 1)
  rw [show bs.length - 1 + 1 = bs.length by omega, val_take_ge (Nat.le_refl _)] at e
  have hl := val_take_lt h D_pos (bs.length - 1)
  rw [Nat.add_mul, Nat.one_mul, Nat.mul_comm (nth bs _)]
  omega
theorem low_val5 {bs : List Nat} (hm : 0 < bs.length) (ht : nth bs (bs.length - 1) ≠ 0) : D ^ (bs.length - 1) ≤ val D bs := by
  have e := val_take_succ' (b := D) bs (bs.length - 1)
  rw [show bs.length - 1 + 1 = bs.length by omega, val_take_ge (Nat.le_refl _)] at e
  have : D ^ (bs.length - 1) * 1 ≤ D ^ (bs.length - 1) * nth bs (bs.length - 1) := Nat.mul_le_mul_left _ (by omega)
  omega
end Go.Proofs.Ytphofjinncbaaaa
namespace Go.Proofs.Ytphofjinncbaaaa
open Go.RowKit
set_option linter.unusedVariables false
theorem dg_DW (x : Nat) : (dg W x).length = ((dg D x).length + 3) / 4 := by
  rcases Nat.eq_zero_or_pos x with h0 | h0
  · subst h0; rw [dg_zero W_gt, dg_zero D_gt]; rfl
  · have n1 : dg D x ≠ [] := fun e => by rw [dg_nil_iff D_gt] at e; omega
    have h1 := norm_ge (b := D) (dg_norm x) n1
    rw [dg_val D_gt] at h1
    have h2 := val_lt (dg_all D_gt x)
    rw [dg_val D_gt] at h2
    have hp : 0 < (dg D x).length := List.length_pos_iff.2 n1
    generalize (dg D x).length = q at *
    have e1 : (dg W x).length ≤ (q + 3) / 4 := by
      refine dg_len W_gt (Nat.lt_of_lt_of_le h2 ?_)
      rw [W_D, ← Nat.pow_mul]
      exact Nat.pow_le_pow_right D_pos (by omega)
    have e2 : ¬ (dg W x).length < (q + 3) / 4 := fun hlt => by
      have h3 := val_lt (dg_all W_gt x)
      rw [dg_val W_gt, W_D, ← Nat.pow_mul] at h3
      have : D ^ (4 * (dg (D ^ 4) x).length) ≤ D ^ (q - 1) := Nat.pow_le_pow_right D_pos (by rw [← W_D]; omega)
      omega
    omega
theorem Own.digs {t : TypeId} {B n c x L : Nat} {w : World} {A : Option Addr} (h : Own .i64 t B w A n c (dg D x)) (hx : x < W ^ L) : Dgs w (.slice A n c) x (4 * L) := by
  refine h.dig (dg_all D_gt x) (dg_val D_gt x) ?_
  rw [← h.len]
  refine dg_len D_gt ?_
  rw [W_D, ← Nat.pow_mul] at hx
  exact hx
end Go.Proofs.Ytphofjinncbaaaa
namespace Go.Proofs.Ytphofjinncbaaaa
open Go.RowKit
set_option linter.unusedVariables false

theorem val_take_zeros {b q : Nat} {xs : List Nat} (h : ∀ j, q ≤ j → nth xs j = 0) : val b xs = val b (xs.take q) := by
  refine val_eq_nth fun j => ?_
  by_cases hj : j < q
  · rw [nth, nth, List.getElem?_take, if_pos hj]
  · rw [h j (by omega), nth, List.getElem?_take, if_neg hj]; rfl
def OneP (w : World) (x : Nat) (e : Ending) (w' : World) : Prop :=
  ∃ (u : Nat) (t : Bool), e = .returned (.tuple #[.int .u64 (u : Int), .bool t]) ∧ u < W ∧ (t = true → u = x) ∧ w = w'
/-- the words of two small numbers -/
def OnesP (w : World) (x y m : Nat) (e : Ending) (w' : World) : Prop :=
  ∃ (p q : Nat) (t : Bool), e = .returned (.tuple #[.int .u64 (p : Int), .int .u64 (q : Int), .bool t]) ∧ (t = true → p = x ∧ q = y ∧ x < m ∧ y < m) ∧ Below w.heap.size w w'
end Go.Proofs.Ytphofjinncbaaaa
namespace Go.Proofs.Ytphofjinncbaaaa
open Go.RowKit
set_option linter.unusedVariables false

def TimO (xs ys ss : List Nat) (i : Nat) : Prop := All D ss ∧ ss.length = xs.length + ys.length ∧ (∀ j, i + ys.length ≤ j → nth ss j = 0) ∧ val D ss = val D (xs.take i) * val D ys
end Go.Proofs.Ytphofjinncbaaaa
namespace Go.Proofs.Ytphofjinncbaaaa
open Go.RowKit
set_option linter.unusedVariables false
end Go.Proofs.Ytphofjinncbaaaa
namespace Go.Proofs.Ytphofjinncbaaaa
open Go.RowKit
set_option linter.unusedVariables false

def cel5 : Option Value → Nat
  | some (.int _ z) => z.toNat
  | _ => 0
/-- an own slice in another block than the one that has turned -/
theorem Own.grow' {k : IntKind} {t : TypeId} {B n c g' : Nat} {A : Option Addr} {xs : List Nat} {w w' : World} (h : Own k t B w A n c xs) (hg : Grow (some g') w w') (hne : (Value.slice A n c).ownBlock ≠ some g') : Own k t B w' A n c xs :=
  World.ownsRow.kept h hg (.inr hne)
theorem ownBlock_some {g n c : Nat} : (Value.slice (some ⟨g, 0, none⟩) n c).ownBlock = some g := rfl
theorem drop_pred {xs : List Nat} {q : Nat} (h : q < xs.length) : val D (xs.drop q) = val D (xs.drop (q + 1)) * 65536 + nth xs q := by
  rw [List.drop_eq_getElem_cons h, val, nth_lt h, Nat.mul_comm, D_eq]
  omega
theorem drop_lt2 {xs : List Nat} (h : All D xs) {q : Nat} (hq : xs.length ≤ q + 2) : val D (xs.drop q) < 4294967296 := by
  have h1 := val_lt (h.drop q)
  rw [List.length_drop] at h1
  exact Nat.lt_of_lt_of_le h1 (Nat.pow_le_pow_right D_pos (show xs.length - q ≤ 2 by omega))
/-- the state of the division ahead of digit i = k - 1: quotient in block gq, what is left in B -/
def Dv5I (w0 : World) (x y m N gq k : Nat) (wr : World) (B : Option Addr) (p e : Nat) : Prop :=
  ∃ (R : Nat) (qs rs : List Nat), LngJ x y k R qs ∧ Own .i64 3 w0.heap.size wr (some ⟨gq, 0, none⟩) N N qs ∧ Own .i64 3 w0.heap.size wr B p e rs ∧ All D rs ∧ val D rs = R ∧ p ≤ k + m ∧ k ≤ p + 1 ∧ (Value.slice B p e).ownBlock ≠ some gq ∧ Below w0.heap.size w0 wr
/-- within digit i -/
def Dv5D (w0 : World) (x y m N gq i : Nat) (wr : World) (B : Option Addr) (p e : Nat) : Prop :=
  ∃ (t R : Nat) (qs rs : List Nat), DigJ x y i t R qs ∧ Own .i64 3 w0.heap.size wr (some ⟨gq, 0, none⟩) N N qs ∧ Own .i64 3 w0.heap.size wr B p e rs ∧ All D rs ∧ val D rs = R ∧ Below w0.heap.size w0 wr
end Go.Proofs.Ytphofjinncbaaaa
