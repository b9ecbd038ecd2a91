/-
  The document's tools of arithmetic in numbers: rows of a product in place; take (a multiple less, in place); long division. No program here. The document's tools of arithmetic (surdref05): cut, digits, number, Norm, Word, one, ones, of, Plus. The document's tools of arithmetic (surdref05): one, ones, of, Word, Plus, times, Times. The document's tools of arithmetic (surdref05): times, Times. The document's tools of arithmetic (surdref05): higher, take. The document's tools of arithmetic (surdref05): divide, Quo.
-/
import Derived.Test.YtamfhmmcnlollaaGreatRef1D
import Derived.BigQuiet
import Derived.Test.YtamfhmmcnlollaaGreatFixed
import Derived.Test.YtamfhmmcnlollaaGreatDivP
import Derived.Test.YtamfhmmcnlollaaGreatNatC
namespace Go.Proofs.YtamfhmmcnlollaaGreat
set_option linter.unusedVariables false

/-- the product's rows: i rows are done, in the next one k places; c is carried -/
def TimJ (xs ys ss : List Nat) (i k cn : Nat) : Prop :=
  All D ss ∧ ss.length = xs.length + ys.length ∧ cn < D ∧ (∀ j, i + ys.length ≤ j → nth ss j = 0) ∧ val D ss + D ^ (i + k) * cn = val D (xs.take i) * val D ys + D ^ i * (nth xs i * val D (ys.take k))
theorem TimJ.start {xs ys ss : List Nat} {i : Nat} (h1 : All D ss) (h2 : ss.length = xs.length + ys.length) (h3 : ∀ j, i + ys.length ≤ j → nth ss j = 0) (h4 : val D ss = val D (xs.take i) * val D ys) : TimJ xs ys ss i 0 0 :=
  ⟨h1, h2, D_pos, h3, by rw [h4]; simp [val]⟩
theorem TimJ.step {xs ys ss : List Nat} {i k cn : Nat} (h : TimJ xs ys ss i k cn) (hx : All D xs) (hy : All D ys) (hi : i < xs.length) (hk : k < ys.length) :
    TimJ xs ys (ss.set (i + k) ((cn + nth ss (i + k) + nth xs i * nth ys k) % 65536)) i (k + 1) ((cn + nth ss (i + k) + nth xs i * nth ys k) / 65536) := by
  obtain ⟨h1, h2, h3, h4, h5⟩ := h
  have a1 := hx.nth D_pos i
  have a2 := hy.nth D_pos k
  have a3 := h1.nth D_pos (i + k)
  have a4 : nth xs i * nth ys k ≤ 65535 * 65535 := Nat.mul_le_mul (by rw [D_eq] at a1; omega) (by rw [D_eq] at a2; omega)
  refine ⟨h1.set (Nat.mod_lt _ D_pos) _, by rw [List.length_set, h2], ?_, fun j hj => ?_, ?_⟩
  · rw [D_eq] at *; omega
  · rw [nth_set_ne (by omega)]; exact h4 j hj
  · have e1 := val_setD (b := D) (xs := ss) (k := i + k) (x := (cn + nth ss (i + k) + nth xs i * nth ys k) % 65536) (by omega)
    have e2 := Nat.mod_add_div (cn + nth ss (i + k) + nth xs i * nth ys k) 65536
    rw [val_take_succ' ys k, show i + (k + 1) = i + k + 1 by omega, Nat.pow_succ, Nat.mul_assoc]
    generalize (cn + nth ss (i + k) + nth xs i * nth ys k) % 65536 = r at *
    generalize (cn + nth ss (i + k) + nth xs i * nth ys k) / 65536 = q at *
    have e3 : D ^ (i + k) * r + D ^ (i + k) * (D * q) = D ^ (i + k) * cn + D ^ (i + k) * nth ss (i + k) + D ^ i * (nth xs i * (D ^ k * nth ys k)) := by
      rw [← Nat.mul_add, D_eq, e2, Nat.mul_add, Nat.mul_add, ← D_eq]
      have : D ^ i * (nth xs i * (D ^ k * nth ys k)) = D ^ (i + k) * (nth xs i * nth ys k) := by
        rw [Nat.pow_add, Nat.mul_left_comm (nth xs i), ← Nat.mul_assoc (D ^ i)]
      rw [this]
    rw [Nat.mul_add (nth xs i), Nat.mul_add (D ^ i)]
    omega
theorem TimJ.done {xs ys ss : List Nat} {i cn : Nat} (h : TimJ xs ys ss i ys.length cn) (hi : i < xs.length) :
    All D (ss.set (i + ys.length) cn) ∧ (ss.set (i + ys.length) cn).length = xs.length + ys.length ∧ (∀ j, i + 1 + ys.length ≤ j → nth (ss.set (i + ys.length) cn) j = 0) ∧ val D (ss.set (i + ys.length) cn) = val D (xs.take (i + 1)) * val D ys := by
  obtain ⟨h1, h2, h3, h4, h5⟩ := h
  refine ⟨h1.set h3 _, by rw [List.length_set, h2], fun j hj => ?_, ?_⟩
  · rw [nth_set_ne (by omega)]; exact h4 j (by omega)
  · have e1 := val_setD (b := D) (xs := ss) (k := i + ys.length) (x := cn) (by omega)
    rw [h4 _ (Nat.le_refl _)] at e1
    rw [val_take_succ' xs i, Nat.add_mul, Nat.mul_assoc]
    rw [val_take_ge (xs := ys) (Nat.le_refl _)] at h5
    omega

/-- take: j digits are done; c is lent -/
def TakJ (rs bs ts : List Nat) (k i j cn : Nat) : Prop :=
  All D ts ∧ ts.length = rs.length ∧ cn ≤ k ∧ (∀ t, i + j ≤ t → nth ts t = nth rs t) ∧ val D (ts.take (i + j)) + D ^ i * (k * val D (bs.take j)) = val D (rs.take (i + j)) + D ^ (i + j) * cn
theorem TakJ.step {rs bs ts : List Nat} {k i j cn z m : Nat} (h : TakJ rs bs ts k i j cn) (hb : All D bs) (hj : i + j < rs.length) (hz : z < D) (hm : z + cn + k * nth bs j = nth ts (i + j) + m * D) :
    TakJ rs bs (ts.set (i + j) z) k i (j + 1) m := by
  obtain ⟨h1, h2, h3, h4, h5⟩ := h
  have a1 := hb.nth D_pos j
  have a4 : k * nth bs j ≤ k * 65535 := Nat.mul_le_mul_left _ (by rw [D_eq] at a1; omega)
  have hset : ∀ t, t < i + j → nth (ts.set (i + j) z) t = nth ts t := fun t ht => nth_set_ne (by omega)
  have et : val D ((ts.set (i + j) z).take (i + j)) = val D (ts.take (i + j)) := by
    rw [List.take_set_of_le (Nat.le_refl _)]
  refine ⟨h1.set hz _, by rw [List.length_set, h2], ?_, fun t ht => ?_, ?_⟩
  · have : m * D ≤ k * D + D - 1 := by rw [D_eq] at *; omega
    rw [D_eq] at *; omega
  · rw [nth_set_ne (by omega)]; exact h4 t (by omega)
  · rw [show i + (j + 1) = i + j + 1 by omega, val_take_succ', val_take_succ', val_take_succ', et, nth_set_eq (by omega), ← h4 (i + j) (Nat.le_refl _), Nat.pow_succ, Nat.mul_assoc]
    have e3 : D ^ (i + j) * z + D ^ (i + j) * cn + D ^ i * (k * (D ^ j * nth bs j)) = D ^ (i + j) * nth ts (i + j) + D ^ (i + j) * (D * m) := by
      have : D ^ i * (k * (D ^ j * nth bs j)) = D ^ (i + j) * (k * nth bs j) := by
        rw [Nat.pow_add, Nat.mul_left_comm k, ← Nat.mul_assoc (D ^ i)]
      rw [this, ← Nat.mul_add, ← Nat.mul_add, ← Nat.mul_add, hm, Nat.mul_comm D m]
    rw [Nat.mul_add k, Nat.mul_add (D ^ i)]
    omega
theorem TakJ.done {rs bs ts : List Nat} {k i j cn : Nat} (h : TakJ rs bs ts k i j cn) (hj : i + j = rs.length) (hb : bs.length ≤ j) (hle : D ^ i * (k * val D bs) ≤ val D rs) :
    All D ts ∧ ts.length = rs.length ∧ val D ts = val D rs - D ^ i * (k * val D bs) := by
  obtain ⟨h1, h2, h3, h4, h5⟩ := h
  rw [hj, val_take_ge (xs := ts) (by omega), val_take_ge (xs := rs) (Nat.le_refl _), val_take_ge (xs := bs) hb] at h5
  have hlt := val_lt h1
  rw [h2] at hlt
  refine ⟨h1, h2, ?_⟩
  have hc : cn = 0 := by
    rcases Nat.eq_zero_or_pos cn with h0 | h0
    · exact h0
    · have : D ^ rs.length * 1 ≤ D ^ rs.length * cn := Nat.mul_le_mul_left _ h0
      omega
  subst hc
  rw [Nat.mul_zero] at h5
  omega

/-- long division: the quotient's digits from k on are done; R is left -/
def LngJ (x y k R : Nat) (qs : List Nat) : Prop := All D qs ∧ val D qs * y + R = x ∧ (∀ j, j < k → nth qs j = 0) ∧ R < y * D ^ k
theorem val_div {b : Nat} (hb : 0 < b) {xs : List Nat} (h : All b xs) (k : Nat) : val b (xs.drop k) = val b xs / b ^ k := by
  by_cases hk : k ≤ xs.length
  · have e := val_append (b := b) (xs.take k) (xs.drop k)
    rw [List.take_append_drop, List.length_take, Nat.min_eq_left hk] at e
    have hl := val_lt (h.take k)
    rw [List.length_take, Nat.min_eq_left hk] at hl
    rw [e, Nat.add_mul_div_left _ _ (Nat.pow_pos hb), Nat.div_eq_of_lt hl, Nat.zero_add]
  · rw [List.drop_of_length_le (by omega)]
    have hl := val_lt h
    have : b ^ xs.length ≤ b ^ k := Nat.pow_le_pow_right hb (by omega)
    rw [Nat.div_eq_of_lt (by omega)]
    rfl
/-- within digit i: t of it is done -/
def DigJ (x y i t R : Nat) (qs : List Nat) : Prop := All D qs ∧ i < qs.length ∧ t = nth qs i ∧ val D qs * y + R = x ∧ (∀ j, j < i → nth qs j = 0) ∧ D ^ i * (t * y) + R < y * D ^ (i + 1)
theorem LngJ.digit {x y i R : Nat} {qs : List Nat} (h : LngJ x y (i + 1) R qs) (hi : i < qs.length) : DigJ x y i 0 R qs := by
  obtain ⟨h1, h2, h3, h4⟩ := h
  exact ⟨h1, hi, (h3 i (by omega)).symm, h2, fun j hj => h3 j (by omega), by simpa using h4⟩
theorem DigJ.step {x y i t R k : Nat} {qs : List Nat} (h : DigJ x y i t R qs) (hk : D ^ i * (k * y) ≤ R) (hy : 0 < y) : DigJ x y i (t + k) (R - D ^ i * (k * y)) (qs.set i (t + k)) ∧ t + k < D := by
  obtain ⟨h1, h2, h3, h4, h5, h6⟩ := h
  have e0 : D ^ i * ((t + k) * y) = D ^ i * (t * y) + D ^ i * (k * y) := by rw [Nat.add_mul, Nat.mul_add]
  have ht : t + k < D := by
    have : D ^ i * ((t + k) * y) < y * D ^ (i + 1) := by omega
    rw [Nat.pow_succ, Nat.mul_comm y, Nat.mul_assoc, Nat.mul_comm D y] at this
    have := Nat.lt_of_mul_lt_mul_left this
    rw [Nat.mul_comm y] at this
    exact Nat.lt_of_mul_lt_mul_right this
  refine ⟨⟨h1.set ht _, by rw [List.length_set]; exact h2, (nth_set_eq h2).symm, ?_, fun j hj => ?_, by omega⟩, ht⟩
  · have e1 := val_setD (b := D) (xs := qs) (k := i) (x := t + k) h2
    rw [← h3] at e1
    have e2 : val D (qs.set i (t + k)) = val D qs + D ^ i * k := by rw [Nat.mul_add] at e1; omega
    rw [e2, Nat.add_mul, Nat.mul_assoc]
    omega
  · rw [nth_set_ne (by omega)]; exact h5 j hj
theorem DigJ.done {x y i t R : Nat} {qs : List Nat} (h : DigJ x y i t R qs) (hR : R / D ^ i < y) : LngJ x y i R qs := by
  obtain ⟨h1, h2, h3, h4, h5, h6⟩ := h
  refine ⟨h1, h4, h5, ?_⟩
  rw [Nat.mul_comm]
  exact (Nat.div_lt_iff_lt_mul (Nat.pow_pos D_pos)).1 hR |> fun h => by rwa [Nat.mul_comm] at h
theorem LngJ.done {x y R : Nat} {qs : List Nat} (h : LngJ x y 0 R qs) : val D qs = x / y ∧ R = x % y := by
  obtain ⟨h1, h2, h3, h4⟩ := h
  rw [Nat.pow_zero, Nat.mul_one] at h4
  have hy : 0 < y := by omega
  rw [← h2, Nat.mul_comm, Nat.mul_add_div hy, Nat.mul_add_mod, Nat.div_eq_of_lt h4, Nat.mod_eq_of_lt h4]
  simp
theorem LngJ.start {x y n m : Nat} {N : Nat} (hx : x < D ^ n) (hy : D ^ (m - 1) ≤ y) (hm : 0 < m) (hN : N + m = n + 1) : LngJ x y N x (List.replicate N 0) := by
  refine ⟨All.replicate D_pos, by rw [val_replicate]; simp, fun j hj => by simp [nth, hj], ?_⟩
  have h1 : D ^ (m - 1) * D ^ N ≤ y * D ^ N := Nat.mul_le_mul_right _ hy
  rw [← Nat.pow_add, show m - 1 + N = n by omega] at h1
  omega
/-- the guess is at most what fits -/
theorem guess5 {R y top i m : Nat} (hm : 0 < m) (ht : y < (top) * D ^ (m - 1)) (hR : y ≤ R / D ^ i) : D ^ i * (max 1 (R / D ^ (i + (m - 1)) / top) * y) ≤ R := by
  have hk : max 1 (R / D ^ (i + (m - 1)) / top) * y ≤ R / D ^ i := by
    rcases Nat.le_total (R / D ^ (i + (m - 1)) / top) 1 with h | h
    · rw [Nat.max_eq_left h, Nat.one_mul]; exact hR
    · rw [Nat.max_eq_right h, Nat.pow_add, ← Nat.div_div_eq_div_mul]
      have h1 := Nat.div_mul_le_self (R / D ^ i / D ^ (m - 1)) top
      have h2 := Nat.div_mul_le_self (R / D ^ i) (D ^ (m - 1))
      have h3 : R / D ^ i / D ^ (m - 1) / top * y ≤ R / D ^ i / D ^ (m - 1) / top * (top * D ^ (m - 1)) := Nat.mul_le_mul_left _ (Nat.le_of_lt ht)
      rw [← Nat.mul_assoc] at h3
      have h4 := Nat.mul_le_mul_right (D ^ (m - 1)) h1
      omega
  have h5 := Nat.mul_div_le R (D ^ i)
  have h6 := Nat.mul_le_mul_left (D ^ i) hk
  omega
theorem top_val5 {bs : List Nat} (h : All D bs) (hm : 0 < bs.length) : val D bs < (nth bs (bs.length - 1) + 1) * D ^ (bs.length - 1) := by
  have e := val_take_succ' (b := D) bs (bs.length - 1)
  rw [show bs.length - 1 + 1 = bs.length by omega, val_take_ge (Nat.le_refl _)] at e
  have hl := val_take_lt h D_pos (bs.length - 1)
  rw [Nat.add_mul, Nat.one_mul, Nat.mul_comm (nth bs _)]
  omega
theorem low_val5 {bs : List Nat} (hm : 0 < bs.length) (ht : nth bs (bs.length - 1) ≠ 0) : D ^ (bs.length - 1) ≤ val D bs := by
  have e := val_take_succ' (b := D) bs (bs.length - 1)
  rw [show bs.length - 1 + 1 = bs.length by omega, val_take_ge (Nat.le_refl _)] at e
  have : D ^ (bs.length - 1) * 1 ≤ D ^ (bs.length - 1) * nth bs (bs.length - 1) := Nat.mul_le_mul_left _ (by omega)
  omega
end Go.Proofs.YtamfhmmcnlollaaGreat
namespace Go.Proofs.YtamfhmmcnlollaaGreat
open Go.RowKit
set_option linter.unusedVariables false

set_option maxHeartbeats 1000000 in
theorem cut5_any {A : Option Addr} {n c : Nat} {xs : List Nat} {w : World} (h : Rd .i64 w A n c xs) (hn : n ≤ 1099511627776) :
    Calls Tryz.prog 110 #[.slice A n c] w (fun e w' => ∃ q, e = .returned (.slice A q c) ∧ q ≤ n ∧ xs.take q = strip xs ∧ w = w') := by
  have H := Lib.hid h
  have hcap := h.cap
  clear h
  go_enter Tryz.func110, Tryz.ntmps110
  go_wp2
  go_loop [3] (fun qv => ∃ q : Nat, Hid (∀ j, q ≤ j → nth xs j = 0) ∧ q ≤ n ∧ qv = .int .i64 (q : Int)) (fun qv => (intOf qv).toNat)
  case atStart => exact ⟨n, fun j hj => nth_ge (by rw [H.out.len]; exact hj), Nat.le_refl _, rfl⟩
  case round =>
    obtain ⟨q, hZ, hq, rfl⟩ := hrel
    have FIN : Hid ((q = 0 ∨ nth xs (q - 1) ≠ 0) → xs.take q = strip xs) := fun ht => (strip_of_top (by rw [H.out.len]; exact hq) hZ.out ht).symm
    by_cases h0 : q = 0
    · subst h0
      go_wp2
      go_ret
      exact ⟨0, by simp, Nat.zero_le _, FIN.out (by simp), rfl⟩
    · obtain ⟨p, rfl⟩ : ∃ p, q = p + 1 := ⟨q - 1, by omega⟩
      obtain ⟨b1, off1, ea, hb1, hcd⟩ := H.out.at (i := p) (by omega)
      subst ea
      have i1 : (p : Int) < (n : Int) := by omega
      by_cases hz : nth xs p = 0
      · have q0 : (((nth xs p : Nat) : Int) == 0) = true := by rw [hz]; rfl
        have HZ : Hid (∀ j, p ≤ j → nth xs j = 0) := fun j hj => by
          by_cases hjm : j = p
          · rw [hjm]; exact hz
          · exact hZ.out j (by omega)
        clear hz
        generalize nth xs p = d at *
        go_wp2
        go_round
        case rel => exact ⟨p, HZ, by omega, by go_num⟩
        case measure => simp [intOf]
      · have q0 : (((nth xs p : Nat) : Int) == 0) = false := by rw [beq_eq_false_iff_ne]; omega
        have HF := FIN.out (.inr hz)
        have HF2 := Lib.hid HF
        clear hz HF
        generalize nth xs p = d at *
        go_wp2
        go_ret
        exact ⟨p + 1, by simp, hq, HF2.out, rfl⟩
set_option maxHeartbeats 400000 in
theorem digits5_any {v : Value} {x L : Nat} {w : World} (h : Num w v x L) (hL : L ≤ 34359738368) : Calls Tryz.prog 108 #[v] w (GD w (dg D x)) := by
  obtain ⟨A, n, c, xs, rfl, h1, h2, rfl, h4⟩ := h
  have C := Lib.hid (digits1_any h1 h2 (by omega))
  have HA := Lib.hid h2
  have hln := h1.len
  clear h1 h2
  go_enter Tryz.func108, Tryz.ntmps108
  go_wp2_with fail
  refine C.out.mono ?_
  rintro e w1 ⟨A1, n1, c1, rfl, ho1, hb1⟩
  have HO := Lib.hid ho1
  have HB := Lib.hid hb1
  have hl1 := ho1.len
  rw [flat_length, hln] at hl1
  have C2 := Lib.hid (cut5_any ho1.rd (by omega))
  clear ho1 hb1
  go_wp2_with fail
  refine C2.out.mono ?_
  rintro e w2 ⟨q, rfl, hq, ht, rfl⟩
  have HF := HO.out.upto hq
  rw [ht, strip_eq_dg D_gt (flat_all xs), val_flat HA.out] at HF
  have HF2 := Lib.hid HF
  clear HF ht
  go_wp2
  go_ret
  exact ⟨_, _, _, rfl, HF2.out, HB.out⟩
theorem dg_DW (x : Nat) : (dg W x).length = ((dg D x).length + 3) / 4 := by
  rcases Nat.eq_zero_or_pos x with h0 | h0
  · subst h0; rw [dg_zero W_gt, dg_zero D_gt]; rfl
  · have n1 : dg D x ≠ [] := fun e => by rw [dg_nil_iff D_gt] at e; omega
    have h1 := norm_ge (b := D) (dg_norm x) n1
    rw [dg_val D_gt] at h1
    have h2 := val_lt (dg_all D_gt x)
    rw [dg_val D_gt] at h2
    have hp : 0 < (dg D x).length := List.length_pos_iff.2 n1
    generalize (dg D x).length = q at *
    have e1 : (dg W x).length ≤ (q + 3) / 4 := by
      refine dg_len W_gt (Nat.lt_of_lt_of_le h2 ?_)
      rw [W_D, ← Nat.pow_mul]
      exact Nat.pow_le_pow_right D_pos (by omega)
    have e2 : ¬ (dg W x).length < (q + 3) / 4 := fun hlt => by
      have h3 := val_lt (dg_all W_gt x)
      rw [dg_val W_gt, W_D, ← Nat.pow_mul] at h3
      have : D ^ (4 * (dg (D ^ 4) x).length) ≤ D ^ (q - 1) := Nat.pow_le_pow_right D_pos (by rw [← W_D]; omega)
      omega
    omega
set_option maxHeartbeats 400000 in
theorem number5_any {v : Value} {x L : Nat} {w : World} (h : Dgs w v x L) (hL : L ≤ 137438953472) : Calls Tryz.prog 111 #[v] w (GN w x ((L + 3) / 4)) := by
  obtain ⟨A, n, c, xs, rfl, h1, h2, rfl, h4⟩ := h
  have C := Lib.hid (cut5_any h1 (by omega))
  have H := Lib.hid h1
  have HA := Lib.hid h2
  clear h1 h2
  go_enter Tryz.func111, Tryz.ntmps111
  go_wp2_with fail
  refine C.out.mono ?_
  rintro e w2 ⟨q, rfl, hq, ht, rfl⟩
  have HR := H.out.upto hq
  rw [ht] at HR
  have hql : (dg D (val D xs)).length = q := by rw [← strip_eq_dg D_gt HA.out]; exact HR.len
  have C2 := Lib.hid (words1_raw (m := (q + 3) / 4) (m' := ((q : Int) + 3) / 4) HR (strip_all HA.out) (by omega) (by omega) (by omega))
  rw [strip_val, ← hql, ← dg_DW] at C2
  have e1 : wds W (dg W (val D xs)).length (val D xs) = dg W (val D xs) := by
    have := wds_val (dg_all W_gt (val D xs))
    rwa [dg_val W_gt] at this
  rw [e1, hql] at C2
  have hlw : Hid ((dg W (val D xs)).length ≤ (L + 3) / 4) := by show _ ≤ _; rw [dg_DW, hql]; omega
  have j1 : (0 : Int) ≤ (q : Int) + 3 := by omega
  have j2 : (q : Int) ≤ 137438953472 := by omega
  clear HR ht hql e1
  go_wp2_with fail
  refine C2.out.mono ?_
  rintro e w3 ⟨A3, n3, c3, rfl, ho3, hb3⟩
  have HO := Lib.hid (And.intro ho3 hb3)
  have hn3 := ho3.len
  clear ho3 hb3
  go_wp2
  go_ret
  exact ⟨_, _, _, rfl, HO.out.1, HO.out.2, by rw [← hn3]; exact hlw.out⟩
theorem Own.digs {t : TypeId} {B n c x L : Nat} {w : World} {A : Option Addr} (h : Own .i64 t B w A n c (dg D x)) (hx : x < W ^ L) : Dgs w (.slice A n c) x (4 * L) := by
  refine h.dig (dg_all D_gt x) (dg_val D_gt x) ?_
  rw [← h.len]
  refine dg_len D_gt ?_
  rw [W_D, ← Nat.pow_mul] at hx
  exact hx
set_option maxHeartbeats 400000 in
theorem norm5_any {v : Value} {x L : Nat} {w : World} (h : Num w v x L) (hL : L ≤ 34359738368) : Calls Tryz.prog 98 #[v] w (GN w x L) := by
  have C := Lib.hid (digits5_any h hL)
  have HX := Lib.hid h.lt
  obtain ⟨_, _, _, _, rfl, _⟩ := id h
  clear h
  go_enter Tryz.func98, Tryz.ntmps98
  go_wp2_with fail
  refine C.out.mono ?_
  rintro e w1 ⟨A1, n1, c1, rfl, ho1, hb1⟩
  have C2 := Lib.hid (number5_any (ho1.digs HX.out) (by omega))
  rw [show (4 * L + 3) / 4 = L by omega] at C2
  have HB := Lib.hid hb1
  clear ho1 hb1
  go_wp2_with fail
  refine C2.out.mono ?_
  rintro e w3 ⟨A3, n3, c3, rfl, ho3, hb3, hl3⟩
  have HO : Hid (Own .u64 41 w.heap.size w3 A3 n3 c3 (dg W x) ∧ Below w.heap.size w w3) := ⟨ho3.mono HB.out.size, bt HB.out hb3⟩
  clear ho3 hb3
  go_wp2
  go_ret
  exact ⟨_, _, _, rfl, HO.out.1, HO.out.2, hl3⟩
end Go.Proofs.YtamfhmmcnlollaaGreat
namespace Go.Proofs.YtamfhmmcnlollaaGreat
open Go.RowKit
set_option linter.unusedVariables false

theorem val_take_zeros {b q : Nat} {xs : List Nat} (h : ∀ j, q ≤ j → nth xs j = 0) : val b xs = val b (xs.take q) := by
  refine val_eq_nth fun j => ?_
  by_cases hj : j < q
  · rw [nth, nth, List.getElem?_take, if_pos hj]
  · rw [h j (by omega), nth, List.getElem?_take, if_neg hj]; rfl
def OneP (w : World) (x : Nat) (e : Ending) (w' : World) : Prop :=
  ∃ (u : Nat) (t : Bool), e = .returned (.tuple #[.int .u64 (u : Int), .bool t]) ∧ u < W ∧ (t = true → u = x) ∧ w = w'
set_option maxHeartbeats 1000000 in
theorem one5_any {v : Value} {x L : Nat} {w : World} (h : Num w v x L) (hL : L ≤ 1099511627776) :
    Calls Tryz.prog 137 #[v] w (OneP w x) := by
  obtain ⟨A, n, c, xs, rfl, h1, h2, rfl, h4⟩ := h
  have H := Lib.hid h1
  have HA := Lib.hid h2
  have hn : n ≤ 1099511627776 := by omega
  clear h1 h2 h4
  go_enter Tryz.func137, Tryz.ntmps137
  go_wp2
  go_loop [4] (fun qv => ∃ q : Nat, Hid (∀ j, q ≤ j → nth xs j = 0) ∧ q ≤ n ∧ qv = .int .i64 (q : Int)) (fun qv => (intOf qv).toNat)
  case atStart => exact ⟨n, fun j hj => nth_ge (by rw [H.out.len]; exact hj), Nat.le_refl _, rfl⟩
  case round =>
    obtain ⟨q, hZ, hq, rfl⟩ := hrel
    by_cases h0 : q = 0
    · subst h0
      have HV : Hid (val W xs = 0) := by show _ = _; rw [val_take_zeros hZ.out]; rfl
      go_wp2
      go_ret2
      exact ⟨0, true, rfl, W_pos, fun _ => HV.out.symm, rfl⟩
    · obtain ⟨p, rfl⟩ : ∃ p, q = p + 1 := ⟨q - 1, by omega⟩
      obtain ⟨b1, off1, ea, hb1, hcd⟩ := H.out.at (i := p) (by omega)
      subst ea
      have i1 : (p : Int) < (n : Int) := by omega
      by_cases hz : nth xs p = 0
      · have q0 : (((nth xs p : Nat) : Int) == 0) = true := by rw [hz]; rfl
        have HZ : Hid (∀ j, p ≤ j → nth xs j = 0) := fun j hj => by
          by_cases hjm : j = p
          · rw [hjm]; exact hz
          · exact hZ.out j (by omega)
        clear hz
        generalize nth xs p = d at *
        go_wp2
        go_round
        case rel => exact ⟨p, HZ, by omega, by go_num⟩
        case measure => simp [intOf]
      · have q0 : (((nth xs p : Nat) : Int) == 0) = false := by rw [beq_eq_false_iff_ne]; omega
        obtain ⟨b2, off2, ea2, hb2, hc0⟩ := H.out.at (i := 0) (by omega)
        injection ea2 with ea2
        injection ea2 with ea2 ea3
        subst ea2 ea3
        rw [Nat.add_zero] at hc0
        have HW : Hid (nth xs 0 < W) := HA.out.nth W_pos 0
        have HV : Hid (p = 0 → nth xs 0 = val W xs) := fun e => by
          subst e
          rw [val_take_zeros hZ.out, val_take_succ' xs 0]
          simp [val]
        have i2 : (0 : Int) < (n : Int) := by omega
        have HQ : Hid (p = 0 → (((nth xs 0 : Nat) : Int) == 0) = false) := fun e => by subst e; exact q0
        clear hz
        generalize nth xs p = d at *
        generalize nth xs 0 = u at *
        by_cases hp : p = 0
        · have HU := Lib.hid (HV.out hp)
          have q4 := HQ.out hp
          have q1 : (((p : Nat) : Int) + 1 == 1) = true := by rw [beq_iff_eq]; omega
          have q2 : (((p : Nat) : Int) + 1 == 0) = false := by rw [beq_eq_false_iff_ne]; omega
          have q3 : ((p : Int) == 0) = true := by rw [beq_iff_eq]; omega
          go_wp2
          go_ret2
          exact ⟨u, true, by simp, HW.out, fun _ => HU.out, rfl⟩
        · have q1 : (((p : Nat) : Int) + 1 == 1) = false := by rw [beq_eq_false_iff_ne]; omega
          have q2 : ((p : Int) == 0) = false := by rw [beq_eq_false_iff_ne]; omega
          go_wp2
          go_ret2
          exact ⟨u, false, by simp, HW.out, fun h => (by cases h), rfl⟩
/-- the words of two small numbers -/
def OnesP (w : World) (x y m : Nat) (e : Ending) (w' : World) : Prop :=
  ∃ (p q : Nat) (t : Bool), e = .returned (.tuple #[.int .u64 (p : Int), .int .u64 (q : Int), .bool t]) ∧ (t = true → p = x ∧ q = y ∧ x < m ∧ y < m) ∧ Below w.heap.size w w'
set_option maxHeartbeats 1000000 in
theorem ones63_any {v u : Value} {x y L M : Nat} {w : World} (h : Num w v x L) (h' : Num w u y M) (hL : L ≤ 1099511627776) (hM : M ≤ 1099511627776) :
    Calls Tryz.prog 106 #[v, u, .int .i64 63] w (OnesP w x y 9223372036854775808) := by
  have C1 := Lib.hid (one5_any h hL)
  have C2 := Lib.hid (one5_any h' hM)
  obtain ⟨_, _, _, _, rfl, _⟩ := id h
  obtain ⟨_, _, _, _, rfl, _⟩ := id h'
  clear h h'
  go_enter Tryz.func106, Tryz.ntmps106
  go_wp2_with fail
  refine C1.out.mono ?_
  rintro e w' ⟨p, t, rfl, hp, htp, rfl⟩
  have HT1 := Lib.hid (And.intro hp htp)
  clear hp htp
  go_wp2_with fail
  refine C2.out.mono ?_
  rintro e w' ⟨q, t2, rfl, hq, htq, rfl⟩
  have HT2 := Lib.hid (And.intro hq htq)
  clear hq htq
  rcases t with _ | _
  · skip
    go_wp2_with fail
    go_quiet (fail)
    go_wp2
    go_ret3
    exact ⟨p, q, false, by simp, (fun h => (by cases h)), below_drewN _ _⟩
  · rcases t2 with _ | _
    · skip
      go_wp2_with fail
      go_quiet (fail)
      go_wp2
      go_ret3
      exact ⟨p, q, false, by simp, (fun h => (by cases h)), below_drewN _ _⟩
    · by_cases h1 : p < 9223372036854775808
      · have q1 : ((p : Int) / 9223372036854775808 == 0) = true := by rw [beq_iff_eq]; omega
        by_cases h2 : q < 9223372036854775808
        · have q2 : ((q : Int) / 9223372036854775808 == 0) = true := by rw [beq_iff_eq]; omega
          have HF : Hid (p = x ∧ q = y ∧ x < 9223372036854775808 ∧ y < 9223372036854775808) := by
            have e1 := HT1.out.2 rfl
            have e2 := HT2.out.2 rfl
            exact ⟨e1, e2, by omega, by omega⟩
          go_wp2_with fail
          go_quiet (fail)
          go_wp2
          go_ret3
          exact ⟨p, q, true, by simp, (fun _ => HF.out), below_drewN _ _⟩
        · have q2 : ((q : Int) / 9223372036854775808 == 0) = false := by rw [beq_eq_false_iff_ne]; omega
          go_wp2_with fail
          go_quiet (fail)
          go_wp2
          go_ret3
          exact ⟨p, q, false, by simp, (fun h => (by cases h)), below_drewN _ _⟩
      · have q1 : ((p : Int) / 9223372036854775808 == 0) = false := by rw [beq_eq_false_iff_ne]; omega
        go_wp2_with fail
        go_quiet (fail)
        go_wp2
        go_ret3
        exact ⟨p, q, false, by simp, (fun h => (by cases h)), below_drewN _ _⟩
set_option maxHeartbeats 400000 in
theorem of5_any {x : Nat} {x' : Int} {w : World} (ex : x' = (x : Int)) (hx : x < W) : Calls Tryz.prog 107 #[.int .u64 x'] w (GN w x 1) := by
  subst ex
  by_cases h0 : x = 0
  · subst h0
    go_enter Tryz.func107, Tryz.ntmps107
    go_wp2
    go_ret
    exact ⟨_, _, _, rfl, by rw [dg_zero W_gt]; exact Own.lit (k := .u64) (t := 41) w [] (by simp [maxLen]) (Nat.le_refl _), belowA _ _, by simp⟩
  · have q1 : ((x : Int) == 0) = false := by rw [beq_eq_false_iff_ne]; omega
    have HX : Hid (dg W x = [x]) := by
      show _ = _
      have := norm_dg (b := W) (xs := [x]) W_gt (All.cons hx All.nil) (strip_snoc (xs := []) h0)
      rw [this]
      simp [val]
    go_enter Tryz.func107, Tryz.ntmps107
    go_wp2
    go_ret
    exact ⟨_, _, _, rfl, by rw [HX.out]; exact Own.lit (k := .u64) (t := 41) w [x] (by simp [maxLen]) (Nat.le_refl _), belowA _ _, Nat.le_refl _⟩
end Go.Proofs.YtamfhmmcnlollaaGreat
namespace Go.Proofs.YtamfhmmcnlollaaGreat
open Go.RowKit
set_option linter.unusedVariables false
end Go.Proofs.YtamfhmmcnlollaaGreat
namespace Go.Proofs.YtamfhmmcnlollaaGreat
open Go.RowKit
set_option linter.unusedVariables false

set_option maxHeartbeats 1000000 in
theorem higher5_any {A : Option Addr} {v : Value} {n c i y M : Nat} {i' : Int} {xs : List Nat} {w : World} (h : Rd .i64 w A n c xs) (hx : All D xs) (h' : Dgs w v y M) (ei : i' = (i : Int)) (hi : i ≤ n) (hn : n ≤ 549755813888) (hM : M ≤ 549755813888) :
    Calls Tryz.prog 139 #[.slice A n c, v, .int .i64 i'] w (fun e w' => e = .returned (.bool (decide (y ≤ val D xs / D ^ i))) ∧ w = w') := by
  subst ei
  have C := Lib.hid (compare1_any (L := n) (h.from_ hi |> fun h => (⟨_, _, _, _, rfl, h, hx.drop i, rfl, by omega⟩ : Dgs w _ (val D (xs.drop i)) n)) h' (by omega) (by omega))
  have HV : Hid ((0 ≤ cmpN (val D (xs.drop i)) y) ↔ y ≤ val D xs / D ^ i) := by
    show _ ↔ _
    rw [val_div D_pos hx, cmpN]
    split
    · constructor <;> intro _ <;> omega
    · split <;> constructor <;> intro _ <;> omega
  have hc := h.cap
  obtain ⟨_, _, _, _, rfl, _⟩ := id h'
  obtain ⟨z, hz⟩ : ∃ z, z = cmpN (val D (xs.drop i)) y := ⟨_, rfl⟩
  rw [← hz] at C HV
  have hd : decide ((0 : Int) ≤ z) = decide (y ≤ val D xs / D ^ i) := by simp only [HV.out]
  have i1 : (0 : Int) ≤ (i : Int) := by omega
  have i2 : (i : Int) ≤ (n : Int) := by omega
  have i3 : (i : Int) ≤ (c : Int) := by omega
  have i4 : (n : Int) ≤ (c : Int) := by omega
  clear h hx h' hz
  generalize decide (y ≤ val D xs / D ^ i) = bb at *
  by_cases hci : c = i
  · subst hci
    obtain rfl : n = c := by omega
    rw [if_pos rfl, Nat.sub_self] at C
    go_enter Tryz.func139, Tryz.ntmps139
    go_wp2_with fail
    refine C.out.mono ?_
    rintro e w' ⟨rfl, rfl⟩
    go_wp2
    go_ret
    exact ⟨rfl, rfl⟩
  · rw [if_neg hci] at C
    go_enter Tryz.func139, Tryz.ntmps139
    go_wp2_with fail
    refine C.out.mono ?_
    rintro e w' ⟨rfl, rfl⟩
    go_wp2
    go_ret
    exact ⟨rfl, rfl⟩

set_option maxHeartbeats 2000000 in
set_option maxRecDepth 100000 in
theorem take5_any {A2 : Option Addr} {t : TypeId} {B g n c m c2 k i : Nat} {k' i' : Int} {rs bs : List Nat} {w : World} (ho : Own .i64 t B w (some ⟨g, 0, none⟩) n c rs) (hb : ∀ w', Grow (some g) w w' → Rd .i64 w' A2 m c2 bs) (hr : All D rs) (hbs : All D bs)
    (ek : k' = (k : Int)) (ei : i' = (i : Int)) (hk : k ≤ 4294967296) (him : i + m ≤ n) (hle : D ^ i * (k * val D bs) ≤ val D rs) (hn : n ≤ 549755813888) :
    Calls Tryz.prog 140 #[.slice (some ⟨g, 0, none⟩) n c, .slice A2 m c2, .int .i64 k', .int .i64 i'] w (fun e w' => ∃ v ts, e = .returned v ∧ Own .i64 t B w' (some ⟨g, 0, none⟩) n c ts ∧ All D ts ∧ val D ts = val D rs - D ^ i * (k * val D bs) ∧ Grow (some g) w w') := by
  subst ek ei
  have HO := Lib.hid ho
  have HBr := Lib.hid hb
  have HB := Lib.hid hbs
  have HR := Lib.hid hr
  have HL := Lib.hid hle
  have hlr := Lib.hid ho.len
  have hlb : Hid (bs.length = m) := (hb w (Grow.refl _ _)).len
  clear ho hb hr hbs hle
  go_enter Tryz.func140, Tryz.ntmps140
  go_wp2
  go_loopw [8, 9] (fun cv jv wr => ∃ (j cn : Nat) (ts : List Nat), Hid (TakJ rs bs ts k i j cn ∧ Own .i64 t B wr (some ⟨g, 0, none⟩) n c ts ∧ Grow (some g) w wr) ∧ i + j ≤ n ∧ cv = .int .i64 (-(cn : Int)) ∧ jv = .int .i64 (j : Int)) (fun _ jv _ => n - (intOf jv).toNat)
  case atStart => exact ⟨0, 0, rs, ⟨⟨HR.out, rfl, Nat.zero_le _, fun _ _ => rfl, by simp [val]⟩, HO.out, Grow.refl _ _⟩, by omega, rfl, rfl⟩
  case round =>
    obtain ⟨j, cn, ts, hJ, hj, rfl, rfl⟩ := hrel
    have hcn : cn ≤ k := hJ.out.1.2.2.1
    by_cases hlt : i + j < n
    · by_cases hjm : j < m
      · obtain ⟨b2, off2, ea, hb2, hc2⟩ := (HBr.out _ hJ.out.2.2).at hjm
        subst ea
        have l2 := HB.out.nth D_pos j
        rw [D_eq] at l2
        have l3 : k * nth bs j ≤ 4294967296 * 65535 := Nat.mul_le_mul hk (by omega)
        obtain ⟨P, hP⟩ : ∃ P, P = k * nth bs j := ⟨_, rfl⟩
        have eP : (k : Int) * ((nth bs j : Nat) : Int) = (P : Int) := by rw [hP, Int.natCast_mul]
        rw [← hP] at l3
        have HP := Lib.hid hP
        clear hP
        obtain ⟨b, hb0⟩ : ∃ b, b = nth bs j := ⟨_, rfl⟩
        rw [← hb0] at hc2 l2 eP
        clear hb0
        have j1 : (j : Int) < (m : Int) := by omega
        have j0 : (0 : Int) ≤ (j : Int) := by omega
        have hc := hJ.out.2.1.cell (i := i + j) (by omega)
        have l1 := hJ.out.1.1.nth D_pos (i + j)
        rw [D_eq] at l1
        have HSTEP := Lib.hid (fun z mm => hJ.out.1.step (z := z) (m := mm) HB.out (by rw [hlr.out]; exact hlt))
        obtain ⟨s, hs⟩ : ∃ s, s = nth ts (i + j) := ⟨_, rfl⟩
        rw [← hs] at hc l1 HSTEP
        clear hs
        obtain ⟨N0, eN0⟩ : ∃ N0 : Int, (s : Int) + -(cn : Int) = N0 := ⟨_, rfl⟩
        obtain ⟨N, eN⟩ : ∃ N : Int, N0 - (P : Int) = N := ⟨_, rfl⟩
        obtain ⟨mm, hmm⟩ : ∃ mm : Nat, (mm : Int) = if N < 0 then (65535 - N) / 65536 else 0 := ⟨(if N < 0 then (65535 - N) / 65536 else 0).toNat, by split <;> omega⟩
        obtain ⟨z, hz⟩ : ∃ z : Nat, (z : Int) = N + (mm : Int) * 65536 := ⟨(N + (mm : Int) * 65536).toNat, by split at hmm <;> omega⟩
        have hz2 : z < 65536 := by split at hmm <;> omega
        have HZZ : Hid (z + cn + P = s + mm * 65536) := by show _ = _; omega
        have ez : N + (mm : Int) * 65536 = (z : Int) := hz.symm
        have b1 : -281474976710656 ≤ N0 ∧ N0 < 65536 := (by omega); obtain ⟨b1, b2⟩ := b1
        have b3 : -562949953421312 ≤ N := by omega
        have b4 : N < 65536 := by omega
        have b5 : mm ≤ 8589934592 := by split at hmm <;> omega
        have HS : Hid (TakJ rs bs (ts.set (i + j) z) k i (j + 1) mm) := HSTEP.out z mm (by rw [D_eq]; exact hz2) (by rw [← HP.out, D_eq]; exact HZZ.out)
        have HM0 : Hid (¬ N < 0 → mm = 0 ∧ (z : Int) = N) := fun h => by rw [if_neg h] at hmm; omega
        have HM1 : Hid (N < 0 → (65535 - N) / 65536 = (mm : Int)) := fun h => by rw [if_pos h] at hmm; exact hmm.symm
        have i1 : (0 : Int) ≤ (i : Int) + (j : Int) := by omega
        have i2 : (i : Int) + (j : Int) < (n : Int) := by omega
        clear hmm hz
        go_wp2
        go_loop [8, 10] (fun cv nv => (cv = .int .i64 0 ∧ nv = .int .i64 N) ∨ (N < 0 ∧ cv = .int .i64 (-(mm : Int)) ∧ nv = .int .i64 (z : Int))) (fun _ nv => if intOf nv < 0 then 1 else 0)
        case atStart => exact .inl ⟨rfl, rfl⟩
        case round =>
          rcases hrel with ⟨rfl, rfl⟩ | ⟨hN, rfl, rfl⟩
          · by_cases hN : N < 0
            · have d1 : decide (N < 0) = true := by simp; omega
              have eq := HM1.out hN
              go_wp2
              go_round
              case rel => exact .inr ⟨hN, rfl, rfl⟩
              case measure =>
                show (if ((z : Nat) : Int) < 0 then 1 else 0) < (if N < 0 then 1 else 0)
                rw [if_neg (by omega), if_pos hN]
                omega
            · have d1 : decide (N < 0) = false := by simp; omega
              obtain ⟨m0, z0⟩ := HM0.out (by omega)
              subst m0
              subst z0
              have hfr := hJ.out.2.1.frozen (i := i + j)
              have HST := Lib.hid (hJ.out.2.1.stored (i := i + j) (x := z))
              have HGR : Hid (Grow (some g) w (wr.setCell ⟨g, i + j, none⟩ (.int .i64 (z : Int)))) := Grow.trans _ _ _ _ hJ.out.2.2 (Grow.set rfl _)
              go_wp2
              go_roundw
              case rel => exact ⟨j + 1, _, _, ⟨HS.out, HST.out, HGR.out⟩, by omega, by simp, by go_num⟩
              case measure => simp [intOf]; omega
          · have d1 : decide ((z : Int) < 0) = false := by simp
            have hfr := hJ.out.2.1.frozen (i := i + j)
            have HST := Lib.hid (hJ.out.2.1.stored (i := i + j) (x := z))
            have HGR : Hid (Grow (some g) w (wr.setCell ⟨g, i + j, none⟩ (.int .i64 (z : Int)))) := Grow.trans _ _ _ _ hJ.out.2.2 (Grow.set rfl _)
            go_wp2
            go_roundw
            case rel => exact ⟨j + 1, _, _, ⟨HS.out, HST.out, HGR.out⟩, by omega, by simp, by go_num⟩
            case measure => simp [intOf]; omega
      · have hP0 : k * nth bs j = 0 := by rw [nth_ge (by rw [hlb.out]; omega), Nat.mul_zero]
        obtain ⟨P, hP⟩ : ∃ P, P = k * nth bs j := ⟨_, rfl⟩
        have HP := Lib.hid hP
        have hPz : P = 0 := by omega
        have j1 : ¬ (j : Int) < (m : Int) := by omega
        clear hP hP0
        have hc := hJ.out.2.1.cell (i := i + j) (by omega)
        have l1 := hJ.out.1.1.nth D_pos (i + j)
        rw [D_eq] at l1
        have HSTEP := Lib.hid (fun z mm => hJ.out.1.step (z := z) (m := mm) HB.out (by rw [hlr.out]; exact hlt))
        obtain ⟨s, hs⟩ : ∃ s, s = nth ts (i + j) := ⟨_, rfl⟩
        rw [← hs] at hc l1 HSTEP
        clear hs
        obtain ⟨N0, eN0⟩ : ∃ N0 : Int, (s : Int) + -(cn : Int) = N0 := ⟨_, rfl⟩
        obtain ⟨N, eN⟩ : ∃ N : Int, N = N0 := ⟨_, rfl⟩; subst eN
        obtain ⟨mm, hmm⟩ : ∃ mm : Nat, (mm : Int) = if N < 0 then (65535 - N) / 65536 else 0 := ⟨(if N < 0 then (65535 - N) / 65536 else 0).toNat, by split <;> omega⟩
        obtain ⟨z, hz⟩ : ∃ z : Nat, (z : Int) = N + (mm : Int) * 65536 := ⟨(N + (mm : Int) * 65536).toNat, by split at hmm <;> omega⟩
        have hz2 : z < 65536 := by split at hmm <;> omega
        have HZZ : Hid (z + cn + P = s + mm * 65536) := by show _ = _; omega
        have ez : N + (mm : Int) * 65536 = (z : Int) := hz.symm
        skip
        have b3 : -562949953421312 ≤ N := by omega
        have b4 : N < 65536 := by omega
        have b5 : mm ≤ 8589934592 := by split at hmm <;> omega
        have HS : Hid (TakJ rs bs (ts.set (i + j) z) k i (j + 1) mm) := HSTEP.out z mm (by rw [D_eq]; exact hz2) (by rw [← HP.out, D_eq]; exact HZZ.out)
        have HM0 : Hid (¬ N < 0 → mm = 0 ∧ (z : Int) = N) := fun h => by rw [if_neg h] at hmm; omega
        have HM1 : Hid (N < 0 → (65535 - N) / 65536 = (mm : Int)) := fun h => by rw [if_pos h] at hmm; exact hmm.symm
        have i1 : (0 : Int) ≤ (i : Int) + (j : Int) := by omega
        have i2 : (i : Int) + (j : Int) < (n : Int) := by omega
        clear hmm hz
        go_wp2
        go_loop [8, 10] (fun cv nv => (cv = .int .i64 0 ∧ nv = .int .i64 N) ∨ (N < 0 ∧ cv = .int .i64 (-(mm : Int)) ∧ nv = .int .i64 (z : Int))) (fun _ nv => if intOf nv < 0 then 1 else 0)
        case atStart => exact .inl ⟨rfl, rfl⟩
        case round =>
          rcases hrel with ⟨rfl, rfl⟩ | ⟨hN, rfl, rfl⟩
          · by_cases hN : N < 0
            · have d1 : decide (N < 0) = true := by simp; omega
              have eq := HM1.out hN
              go_wp2
              go_round
              case rel => exact .inr ⟨hN, rfl, rfl⟩
              case measure =>
                show (if ((z : Nat) : Int) < 0 then 1 else 0) < (if N < 0 then 1 else 0)
                rw [if_neg (by omega), if_pos hN]
                omega
            · have d1 : decide (N < 0) = false := by simp; omega
              obtain ⟨m0, z0⟩ := HM0.out (by omega)
              subst m0
              subst z0
              have hfr := hJ.out.2.1.frozen (i := i + j)
              have HST := Lib.hid (hJ.out.2.1.stored (i := i + j) (x := z))
              have HGR : Hid (Grow (some g) w (wr.setCell ⟨g, i + j, none⟩ (.int .i64 (z : Int)))) := Grow.trans _ _ _ _ hJ.out.2.2 (Grow.set rfl _)
              go_wp2
              go_roundw
              case rel => exact ⟨j + 1, _, _, ⟨HS.out, HST.out, HGR.out⟩, by omega, by simp, by go_num⟩
              case measure => simp [intOf]; omega
          · have d1 : decide ((z : Int) < 0) = false := by simp
            have hfr := hJ.out.2.1.frozen (i := i + j)
            have HST := Lib.hid (hJ.out.2.1.stored (i := i + j) (x := z))
            have HGR : Hid (Grow (some g) w (wr.setCell ⟨g, i + j, none⟩ (.int .i64 (z : Int)))) := Grow.trans _ _ _ _ hJ.out.2.2 (Grow.set rfl _)
            go_wp2
            go_roundw
            case rel => exact ⟨j + 1, _, _, ⟨HS.out, HST.out, HGR.out⟩, by omega, by simp, by go_num⟩
            case measure => simp [intOf]; omega
    · obtain rfl : n = i + j := by omega
      have HD := Lib.hid (hJ.out.1.done (by rw [hlr.out]) (by rw [hlb.out]; omega) HL.out)
      go_wp2
      go_end0
      exact ⟨_, ts, rfl, hJ.out.2.1, HD.out.1, HD.out.2.2, hJ.out.2.2⟩
end Go.Proofs.YtamfhmmcnlollaaGreat
namespace Go.Proofs.YtamfhmmcnlollaaGreat
open Go.RowKit
set_option linter.unusedVariables false

def cel5 : Option Value → Nat
  | some (.int _ z) => z.toNat
  | _ => 0
theorem ownBlock_some {g n c : Nat} : (Value.slice (some ⟨g, 0, none⟩) n c).ownBlock = some g := rfl
theorem drop_pred {xs : List Nat} {q : Nat} (h : q < xs.length) : val D (xs.drop q) = val D (xs.drop (q + 1)) * 65536 + nth xs q := by
  rw [List.drop_eq_getElem_cons h, val, nth_lt h, Nat.mul_comm, D_eq]
  omega
theorem drop_lt2 {xs : List Nat} (h : All D xs) {q : Nat} (hq : xs.length ≤ q + 2) : val D (xs.drop q) < 4294967296 := by
  have h1 := val_lt (h.drop q)
  rw [List.length_drop] at h1
  exact Nat.lt_of_lt_of_le h1 (Nat.pow_le_pow_right D_pos (show xs.length - q ≤ 2 by omega))
/-- the state of the division ahead of digit i = k - 1: quotient in block gq, what is left in B -/
def Dv5I (w0 : World) (x y m N gq k : Nat) (wr : World) (B : Option Addr) (p e : Nat) : Prop :=
  ∃ (R : Nat) (qs rs : List Nat), LngJ x y k R qs ∧ Own .i64 3 w0.heap.size wr (some ⟨gq, 0, none⟩) N N qs ∧ Own .i64 3 w0.heap.size wr B p e rs ∧ All D rs ∧ val D rs = R ∧ p ≤ k + m ∧ k ≤ p + 1 ∧ (Value.slice B p e).ownBlock ≠ some gq ∧ Below w0.heap.size w0 wr
/-- within digit i -/
def Dv5D (w0 : World) (x y m N gq i : Nat) (wr : World) (B : Option Addr) (p e : Nat) : Prop :=
  ∃ (t R : Nat) (qs rs : List Nat), DigJ x y i t R qs ∧ Own .i64 3 w0.heap.size wr (some ⟨gq, 0, none⟩) N N qs ∧ Own .i64 3 w0.heap.size wr B p e rs ∧ All D rs ∧ val D rs = R ∧ Below w0.heap.size w0 wr
set_option maxHeartbeats 4000000 in
set_option maxRecDepth 100000 in
theorem divide5_any {A A2 : Option Addr} {n c m c2 y : Nat} {ds es : List Nat} {w : World} (h : Rd .i64 w A n c ds) (h' : Rd .i64 w A2 m c2 es) (hx : All D ds) (hy : All D es) (hv : val D es = y) (hm0 : 0 < m) (ht : nth es (m - 1) ≠ 0) (hn : n ≤ 137438953472) (hm : m ≤ 137438953472) :
    Calls Tryz.prog 109 #[.slice A n c, .slice A2 m c2] w (GG2 w (val D ds / y) n (val D ds % y) m) := by
  have H := Lib.hid h
  have H' := Lib.hid h'
  have HX := Lib.hid hx
  have HY := Lib.hid hy
  have HE := Lib.hid elI
  have hlx := Lib.hid h.len
  have hly := Lib.hid h'.len
  have HLO : Hid (D ^ (m - 1) ≤ y) := by
    show _ ≤ _
    have := low_val5 (bs := es) (by rw [h'.len]; exact hm0) (by rw [h'.len]; exact ht)
    rw [h'.len, hv] at this; exact this
  have HHI : Hid (y < (nth es (m - 1) + 1) * D ^ (m - 1)) := by
    show _ < _
    have := top_val5 hy (by rw [h'.len]; exact hm0)
    rw [h'.len, hv] at this; exact this
  have HYD : Hid (∀ w', Below w.heap.size w w' → Dgs w' (.slice A2 m c2) y m) := fun w' hb => ⟨A2, m, c2, es, rfl, h'.below hb, hy, hv, Nat.le_refl _⟩
  have HYR : Hid (∀ w', Below w.heap.size w w' → Rd .i64 w' A2 m c2 es) := fun w' hb => h'.below hb
  have hy0 : Hid (0 < y) := Nat.lt_of_lt_of_le (Nat.pow_pos D_pos) HLO.out
  have HYL : Hid (y < D ^ m) := by show _ < _; rw [← hv, ← h'.len]; exact val_lt hy
  obtain ⟨bt5, offt, ea, hbt5, hct⟩ := h'.at (i := m - 1) (by omega)
  subst ea
  have HV := Lib.hid hv
  clear h h' hx hy hv ht
  by_cases hnm : n < m
  · have d1 : decide ((n : Int) < (m : Int)) = true := by simp; omega
    have d2 : decide (n < m) = true := by simp; omega
    go_enter Tryz.func109, Tryz.ntmps109
    go_wp2_with (at_builtin; (refine wpList_app rfl (.tmp 13) (.tmp 14) rfl HE.out (t := 3) (k := .i64) (B := w.heap.size) (xs := []) rfl rfl (Own.lit (k := .i64) (t := 3) w [] (by simp [maxLen]) (Nat.le_refl _)) (H.out.alloc _) (by omega) (by simp) ?_); intro B1 e1 w1 ho1 hb1 _ hown1)
    have HO1 : Hid (Own .i64 3 w.heap.size w1 B1 n e1 ds ∧ Below w.heap.size w w1) := ⟨by simpa using ho1, (belowA _ _).trans hb1⟩
    clear ho1 hb1 hown1
    have HR : Hid (val D ds / y = 0 ∧ val D ds % y = val D ds) := by
      have : val D ds < y := by
        have h1 := val_lt HX.out
        rw [hlx.out] at h1
        exact Nat.lt_of_lt_of_le (Nat.lt_of_lt_of_le h1 (Nat.pow_le_pow_right D_pos (by omega))) HLO.out
      exact ⟨Nat.div_eq_of_lt this, Nat.mod_eq_of_lt this⟩
    go_wp2
    go_ret2
    exact ⟨_, _, _, _, _, _, [], ds, rfl, Own.nil, All.nil, by rw [HR.out.1]; rfl, by omega, HO1.out.1, HX.out, HR.out.2.symm, by omega, HO1.out.2⟩
  · have d1 : decide ((n : Int) < (m : Int)) = false := by simp; omega
    have d2 : decide (n < m) = false := by simp; omega
    obtain ⟨N, hN⟩ : ∃ N, N = n - m + 1 := ⟨_, rfl⟩
    have eN : (n : Int) - (m : Int) + 1 = (N : Int) := by omega
    have HNM : Hid (N + m = n + 1) := by show _ = _; omega
    obtain ⟨m1, hm1⟩ : ∃ m1, m1 = m - 1 := ⟨_, rfl⟩
    have em1 : (m : Int) - 1 = (m1 : Int) := by omega
    have HM1 : Hid (m = m1 + 1) := by show _ = _; omega
    have hN2 : N ≤ 137438953472 := by omega
    have m1m : (m1 : Int) < (m : Int) := by omega
    rw [← hm1] at hct HHI HLO
    have HCT := Lib.hid hct
    have ht5 : nth es m1 < 65536 := HY.out.nth D_pos m1
    clear hN hm1 hct
    go_enter Tryz.func109, Tryz.ntmps109
    go_wp2_with (first
      | (at_builtin; (refine wpList_app rfl (.tmp 13) (.tmp 14) rfl HE.out (t := 3) (k := .i64) (B := w.heap.size) (xs := []) rfl rfl (Own.lit (k := .i64) (t := 3) w [] (by simp [maxLen]) (Nat.le_refl _)) (H.out.alloc _) (by omega) (by simp) ?_); intro B1 e1 w1 ho1 hb1 _ _; have HO1 : Hid (Own .i64 3 w.heap.size w1 B1 n e1 ds ∧ Below w.heap.size w w1) := ⟨(by simpa using ho1), (belowA _ _).trans hb1⟩; clear ho1 hb1)
      | (at_make; (refine wpList_mk rfl (.tmp 27) (.tmp 27) rfl HE.out w.heap.size N rfl rfl (by first | rfl | omega) (by first | rfl | omega) (by omega) HO1.out.2.size ?_); intro w2 ho2 hg2 hb2; have HO2 : Hid (Own .i64 3 w.heap.size w2 (some ⟨w1.heap.size, 0, none⟩) N N (List.replicate N 0) ∧ Below w.heap.size w w2 ∧ Own .i64 3 w.heap.size w2 B1 n e1 ds) := ⟨ho2, bt HO1.out.2 hb2, HO1.out.1.below hb2⟩; clear ho2 hb2 hg2; have ct := (HO2.out.2.1.cell (p := ⟨bt5, offt + m1, none⟩) hbt5).trans HCT.out))
    have HI : Hid (Dv5I w (val D ds) y m N w1.heap.size N w2 B1 n e1) := by
      refine ⟨val D ds, _, ds, LngJ.start (by have := val_lt HX.out; rwa [hlx.out] at this) (m := m) (by rw [HM1.out]; exact HLO.out) hm0 HNM.out, HO2.out.1, HO2.out.2.2, HX.out, rfl, by have := HNM.out; omega, by have := HNM.out; omega, fun e => ?_, HO2.out.2.1⟩
      exact absurd (World.ownsRow.lt HO1.out.1 _ e).2 (Nat.lt_irrefl _)
    generalize nth es m1 = tp at *
    generalize val D ds = X at *
    obtain ⟨gq, hgq⟩ : ∃ gq, gq = w1.heap.size := ⟨_, rfl⟩
    rw [← hgq] at HI ⊢
    clear HO1 HO2 hgq ct HCT
    go_loopw [6, 9] (fun rv iv wr => ∃ (k p e : Nat) (B : Option Addr), Hid (Dv5I w X y m N gq k wr B p e) ∧ k ≤ N ∧ rv = .slice B p e ∧ iv = .int .i64 ((k : Int) - 1)) (fun _ iv _ => (intOf iv + 1).toNat)
    case atStart => exact ⟨N, _, _, _, HI, Nat.le_refl _, rfl, rfl⟩
    case round =>
      obtain ⟨k, p, e, B, hI, hk, rfl, rfl⟩ := hrel
      by_cases h0 : k = 0
      · subst h0
        obtain ⟨R, qs, rs, s1, s2, s3, s4, s5, s6, s7, s8, s9⟩ := hI.out
        obtain ⟨u1, u2⟩ := s1.done
        have HF : Hid (Own .i64 3 w.heap.size wr (some ⟨gq, 0, none⟩) N N qs ∧ All D qs ∧ val D qs = X / y ∧ N ≤ n ∧ Own .i64 3 w.heap.size wr B p e rs ∧ All D rs ∧ val D rs = X % y ∧ p ≤ m ∧ Below w.heap.size w wr) :=
          ⟨s2, s1.1, u1, by have := HNM.out; omega, s3, s4, by rw [s5, u2], by omega, s9⟩
        clear s1 s2 s3 s4 s5 s6 s7 s8 s9 u1 u2
        go_wp2
        go_ret2
        obtain ⟨f1, f2, f3, f4, f5⟩ := HF.out
        exact ⟨_, _, _, _, _, _, qs, rs, rfl, f1, f2, f3, f4, f5⟩
      · obtain ⟨i, rfl⟩ : ∃ i, k = i + 1 := ⟨k - 1, by omega⟩
        have hiN : i < N := by omega
        have HD0 : Hid (Dv5D w X y m N gq i wr B p e) := by
          obtain ⟨R, qs, rs, s1, s2, s3, s4, s5, s6, s7, s8, s9⟩ := hI.out
          exact ⟨0, R, qs, rs, s1.digit (by rw [s2.len]; exact hiN), s2, s3, s4, s5, s9⟩
        have HP : Hid (p ≤ i + 1 + m ∧ i ≤ p ∧ (Value.slice B p e).ownBlock ≠ some gq) := by
          obtain ⟨R, qs, rs, s1, s2, s3, s4, s5, s6, s7, s8, s9⟩ := hI.out
          exact ⟨s6, by omega, s8⟩
        clear hI
        rw [show ((i + 1 : Nat) : Int) - 1 = (i : Int) by omega]
        go_wp2
        go_loopw [10] (fun hv wr => ∃ zz : Value, Hid (Dv5D w X y m N gq i wr B p e) ∧ hv = zz) (fun _ wr => D - cel5 (wr.cell? ⟨gq, i, none⟩))
        case atStart => exact ⟨_, HD0, rfl⟩
        case round =>
          obtain ⟨zz, hrel, rfl⟩ := hrel
          obtain ⟨t, R, qs, rs, s1, s2, s3, s4, s5, s6⟩ := hrel.out
          have CH := Lib.hid (higher5_any (i' := (i : Int)) s3.rd s4 (HYD.out wr s6) rfl HP.out.2.1 (by have := HP.out.1; omega) (by omega))
          rw [s5] at CH
          by_cases hge : y ≤ R / D ^ i
          · have d3 : decide (y ≤ R / D ^ i) = true := by simp; exact hge
            rw [d3] at CH
            have hRy : D ^ i * y ≤ R := Nat.le_trans (Nat.mul_le_mul_left _ hge) (Nat.mul_div_le R (D ^ i))
            have hpm : Hid (i + m1 < p) := by
              show _ < _
              have e1 : D ^ (i + m1) ≤ R := by
                rw [Nat.pow_add]
                exact Nat.le_trans (Nat.mul_le_mul_left _ HLO.out) hRy
              have e2 := val_lt s4
              rw [s5, s3.len] at e2
              have e3 : D ^ (i + m1) < D ^ p := Nat.lt_of_le_of_lt e1 e2
              exact (Nat.pow_lt_pow_iff_right D_gt).1 e3
            have HVD : Hid (∀ q, val D (rs.drop q) = R / D ^ q) := fun q => by rw [val_div D_pos s4, s5]
            have HG := Lib.hid (guess5 (R := R) (y := y) (top := tp + 1) (i := i) (m := m) hm0 (by rw [HM1.out]; exact HHI.out) hge)
            obtain ⟨gr, eB, hgB, hgl⟩ := s3.form (by have := hpm.out; omega)
            subst eB
            have HS1 := Lib.hid s1
            have HS2 := Lib.hid s2
            have HS3 := Lib.hid s3
            have HS4 := Lib.hid s4
            have HS6 := Lib.hid s6
            have HS5 := Lib.hid s5
            have hpl := HP.out.1
            clear s1 s2 s3 s4 s5 s6 hrel hge hRy
            go_wp2_with fail
            refine CH.out.mono ?_
            rintro e2 w' ⟨rfl, rfl⟩
            go_wp2
            go_loop [10, 11] (fun hv jv => ∃ q : Nat, i + m1 ≤ q ∧ q ≤ p ∧ hv = .int .i64 ((val D (rs.drop q) : Nat) : Int) ∧ jv = .int .i64 ((q : Int) - 1)) (fun _ jv => (intOf jv + 1).toNat)
            case atStart => exact ⟨p, Nat.le_of_lt hpm.out, Nat.le_refl _, by rw [List.drop_of_length_le (by rw [HS3.out.len]; exact Nat.le_refl _)]; rfl, rfl⟩
            case round =>
              obtain ⟨q, hq1, hq2, rfl, rfl⟩ := hrel
              by_cases hqe : q = i + m1
              · have d4 : decide ((i : Int) + (m : Int) - 1 ≤ (q : Int) - 1) = false := by have := HM1.out; simp; omega
                have d5 : decide (i + m ≤ q) = false := by have := HM1.out; simp; omega
                have d6 : decide ((i : Int) + (m : Int) ≤ (q : Int)) = false := by have := HM1.out; simp; omega
                have hH : val D (rs.drop q) < 4294967296 := drop_lt2 HS4.out (by rw [HS3.out.len]; have := HM1.out; omega)
                have HH : Hid (val D (rs.drop q) = R / D ^ (i + (m - 1))) := by show _ = _; rw [HVD.out, hqe, HM1.out]; rfl
                have HQE := Lib.hid hqe
                clear hqe
                obtain ⟨a, ha⟩ : ∃ a, a = val D (rs.drop q) := ⟨_, rfl⟩
                rw [← ha] at hH HH ⊢
                clear ha
                obtain ⟨Q, hQ⟩ : ∃ Q, Q = a / (tp + 1) := ⟨_, rfl⟩
                have eQ : (a : Int) / ((tp : Int) + 1) = (Q : Int) := by rw [hQ, Int.natCast_ediv]; rfl
                have hQl : Q ≤ a := by rw [hQ]; exact Nat.div_le_self _ _
                obtain ⟨kk, hkk⟩ : ∃ kk, kk = max 1 Q := ⟨_, rfl⟩
                have eK : max (1 : Int) (Q : Int) = (kk : Int) := by omega
                have hk2 : kk ≤ 4294967296 := by omega
                have HKK : Hid (D ^ i * (kk * y) ≤ R) := by
                  show _ ≤ _
                  have := HG.out
                  rw [← HH.out, ← hQ, ← hkk] at this
                  exact this
                have HK1 : Hid (1 ≤ kk) := by show _ ≤ _; omega
                have nz : ((tp : Int) + 1 == 0) = false := by rw [beq_eq_false_iff_ne]; omega
                have nz2 : (tp : Int) + 1 ≠ 0 := by omega
                clear hQ hkk
                have HT := Lib.hid (HS1.out.step HKK.out hy0.out)
                have HNE : Hid (gq ≠ gr) := fun e => HP.out.2.2 (by rw [ownBlock_some, e])
                have HGQ : Hid (w.heap.size ≤ gq) := (World.ownsRow.lt HS2.out gq rfl).1
                have CT := Lib.hid (take5_any (i' := (i : Int)) (k' := (kk : Int)) HS3.out (fun w' hg => HYR.out w' (HS6.out.trans (hg.below_of hgB HS6.out.size))) HS4.out HY.out rfl rfl hk2 (by have := hpm.out; have := HM1.out; omega) (by rw [HV.out, HS5.out]; exact HKK.out) (by omega))
                go_wp2_with fail
                refine CT.out.mono ?_
                rintro e5 w5 ⟨v5, ts, rfl, ho5, ha5, hv5, hg5⟩
                have HQ5 := Lib.hid (HS2.out.grow hg5 HNE.out)
                have hcq := HQ5.out.cell (i := i) hiN
                have hfq := HQ5.out.frozen (i := i)
                rw [← HS1.out.2.2.1] at hcq
                have ht2 : t + kk < 65536 := HT.out.2
                have HST := HQ5.out.stored (i := i) (x := t + kk)
                have HN1 := HST.cell (i := i) hiN
                rw [nth_set_eq (by rw [HS2.out.len]; exact hiN)] at HN1
                have HN2 := HS2.out.cell (i := i) hiN
                rw [← HS1.out.2.2.1] at HN2
                have HNN := Lib.hid (And.intro HN1 HN2)
                rw [Int.natCast_add] at HST
                have HNEW : Hid (Dv5D w X y m N gq i (w5.setCell ⟨gq, i, none⟩ (.int .i64 ((t : Int) + (kk : Int)))) (some ⟨gr, 0, none⟩) p e) :=
                  ⟨t + kk, R - D ^ i * (kk * y), _, ts, HT.out.1, HST, ho5.grow (Grow.set rfl _) (Ne.symm HNE.out), ha5, by rw [hv5, HV.out, HS5.out], (HS6.out.trans (hg5.below_of hgB HS6.out.size)).setCell (p := ⟨gq, i, none⟩) HGQ.out _⟩
                have hiN2 : (i : Int) < (N : Int) := by omega
                clear ho5 ha5 hv5 hg5 HST HN1 HN2
                go_wp2
                go_roundw
                case rel =>
                    exact ⟨_, HNEW, rfl⟩
                case measure =>
                  have n1 := HNN.out.1
                  have n2 := HNN.out.2
                  rw [Int.natCast_add] at n1
                  rw [n1, n2]
                  have := HK1.out
                  simp [cel5]
                  rw [D_eq]
                  omega
              · obtain ⟨q1, rfl⟩ : ∃ q1, q = q1 + 1 := ⟨q - 1, by omega⟩
                have d4 : decide ((i : Int) + (m : Int) - 1 ≤ ((q1 + 1 : Nat) : Int) - 1) = true := by have := HM1.out; simp; omega
                have d5 : decide (i + m ≤ q1 + 1) = true := by have := HM1.out; simp; omega
                have d6 : decide ((i : Int) + (m : Int) - 1 ≤ (q1 : Int)) = true := by have := HM1.out; simp; omega
                have hcq := HS3.out.cell (i := q1) (by omega)
                have hcl := drop_pred (xs := rs) (q := q1) (by rw [HS3.out.len]; omega)
                have hcb : val D (rs.drop q1) < 4294967296 := drop_lt2 HS4.out (by rw [HS3.out.len]; have := HM1.out; omega)
                have eC : ((val D (rs.drop (q1 + 1)) : Nat) : Int) * 65536 + ((nth rs q1 : Nat) : Int) = ((val D (rs.drop q1) : Nat) : Int) := by omega
                have i1 : (q1 : Int) < (p : Int) := by omega
                have HQ1 : Hid (i + m1 ≤ q1) := by show _ ≤ _; omega
                clear hqe
                obtain ⟨a, ha⟩ : ∃ a, a = val D (rs.drop (q1 + 1)) := ⟨_, rfl⟩
                obtain ⟨c0, hc0⟩ : ∃ c0, c0 = val D (rs.drop q1) := ⟨_, rfl⟩
                rw [← ha] at eC hcl ⊢
                rw [← hc0] at eC hcl hcb
                have HC0 := Lib.hid hc0
                clear ha hc0
                generalize nth rs q1 = b0 at *
                have hal : a ≤ 65536 := by omega
                clear hcl
                go_wp2
                go_round
                case rel => exact ⟨q1, HQ1.out, by omega, by rw [HC0.out], by go_num⟩
                case measure => simp [intOf]
          · have d3 : decide (y ≤ R / D ^ i) = false := by simp; omega
            rw [d3] at CH
            obtain ⟨wo, rfl⟩ : ∃ wo : World, wo = wr := ⟨_, rfl⟩
            have HLJ : Hid (LngJ X y i R qs) := s1.done (by omega)
            have HS2 := Lib.hid s2
            have HS3 := Lib.hid s3
            have HS6 := Lib.hid s6
            have HGL : Hid (gq < wo.heap.size) := ownlt s2
            have hpl := HP.out.1
            have HRL : Hid (strip rs = dg D R) := by show _ = _; rw [strip_eq_dg D_gt s4, s5]
            have HRV : Hid ((dg D R).length ≤ i + m) := by
              refine dg_len D_gt ?_
              have h1 := HLJ.out.2.2.2
              have h2 : y * D ^ i ≤ D ^ m * D ^ i := Nat.mul_le_mul_right _ (Nat.le_of_lt HYL.out)
              rw [← Nat.pow_add, Nat.add_comm m] at h2
              omega
            clear s1 s2 s3 s4 s5 s6 hrel hge
            go_wp2_with fail
            refine CH.out.mono ?_
            rintro e2 w' ⟨rfl, rfl⟩
            go_wp2_with (first
              | (go_at_call 110; refine (cut5_any (HS3.out.rd.alloc _) (by omega)).mono ?_; rintro e6 w6 ⟨q6, rfl, hq6, ht6, rfl⟩; rw [HRL.out] at ht6; have HQ6 : Hid (rs.take q6 = dg D R ∧ q6 ≤ i + m) := ⟨ht6, by have h1 := congrArg List.length ht6; rw [List.length_take, HS3.out.len] at h1; have := HRV.out; omega⟩; clear ht6)
              | (at_builtin; (refine wpList_app rfl (.tmp 82) (.tmp 84) rfl HE.out (t := 3) (k := .i64) (B := wo.heap.size) (xs := []) rfl rfl (Own.lit (k := .i64) (t := 3) wo [] (by simp [maxLen]) (Nat.le_refl _)) ((HS3.out.rd.alloc _).upto hq6) (by omega) (by simp) ?_); intro B7 e7 w7 ho7 hb7 _ _))
            have HR7 : Hid (Own .i64 3 wo.heap.size w7 B7 q6 e7 (dg D R) ∧ All D (dg D R) ∧ val D (dg D R) = R ∧ Below wo.heap.size wo w7 ∧ q6 ≤ i + m) := by
              rw [List.nil_append, HQ6.out.1] at ho7
              exact ⟨by simpa using ho7, dg_all D_gt R, dg_val D_gt R, (belowA _ _).trans hb7, HQ6.out.2⟩
            clear ho7 hb7
            go_loopw [6] (fun rv wx => ∃ (p4 e4 : Nat) (B4 : Option Addr) (rs4 : List Nat), Hid (Own .i64 3 wo.heap.size wx B4 p4 e4 rs4 ∧ All D rs4 ∧ val D rs4 = R ∧ Below wo.heap.size wo wx ∧ p4 ≤ i + m) ∧ rv = .slice B4 p4 e4) (fun rv _ => match rv with | .slice _ q _ => i - q | _ => 0)
            case atStart => exact ⟨q6, e7, B7, _, HR7, rfl⟩
            case round =>
              obtain ⟨p4, e4, B4, rs4, hI4, rfl⟩ := hrel
              have hp4 := hI4.out.2.2.2.2
              by_cases hlt4 : p4 < i
              · have d7 : decide ((p4 : Int) < (i : Int)) = true := by simp; omega
                go_wp2_with (at_builtin; (refine wpList_app rfl (.tmp 90) (.tmp 91) rfl HE.out (t := 3) (k := .i64) (B := wo.heap.size) (ys := [0]) rfl rfl (hI4.out.1.alloc _) (Rd.lit1 wr 0) (by omega) (by have := hI4.out.2.2.2.1.size; simp; omega) ?_); intro B8 e8 w8 ho8 hb8 _ _)
                go_roundw
                case rel => exact ⟨p4 + 1, e8, B8, _, ⟨ho8, hI4.out.2.1.append (All.cons D_pos All.nil), by rw [val_append]; simp [val]; exact hI4.out.2.2.1, (hI4.out.2.2.2.1.alloc hI4.out.2.2.2.1.size _).trans hb8, by omega⟩, rfl⟩
                case measure => simp; omega
              · have d7 : decide ((p4 : Int) < (i : Int)) = false := by simp; omega
                have HEND : Hid (Dv5I w X y m N gq i wr B4 p4 e4) := by
                  obtain ⟨t1, t2, t3, t4, t5⟩ := hI4.out
                  refine ⟨R, qs, rs4, HLJ.out, HS2.out.below t4, t1.mono HS6.out.size, t2, t3, t5, by omega, fun ee => ?_, bt HS6.out t4⟩
                  have := (World.ownsRow.lt t1 _ ee).1
                  have := HGL.out
                  omega
                go_wp2
                go_roundw
                case rel => exact ⟨i, p4, e4, B4, HEND, by omega, rfl, by go_num⟩
                case measure => simp [intOf]
set_option maxHeartbeats 1000000 in
theorem quo5_any {v u : Value} {x y L M : Nat} {w : World} (h : Num w v x L) (h' : Num w u y M) (hy0 : 0 < y) (hL : L ≤ 17179869184) (hM : M ≤ 17179869184) (hL1 : 1 ≤ L) (hM1 : 1 ≤ M) :
    Calls Tryz.prog 90 #[v, u] w (GN2 w (x / y) L (x % y) M) := by
  have H := Lib.hid h
  have H' := Lib.hid h'
  have HY0 := Lib.hid hy0
  have C := Lib.hid (ones63_any h h' (by omega) (by omega))
  have HX := Lib.hid h.lt
  have HY := Lib.hid h'.lt
  obtain ⟨_, _, _, _, rfl, _⟩ := id h
  obtain ⟨_, _, _, _, rfl, _⟩ := id h'
  clear h h' hy0
  go_enter Tryz.func90, Tryz.ntmps90
  go_wp2_with fail
  refine C.out.mono ?_
  rintro e wo ⟨p, q, t, rfl, ht, hbo⟩
  rcases t with _ | _
  · clear ht
    go_wp2_with fail
    refine (digits5_any (H.out.below hbo) (by omega)).mono ?_
    rintro e w1 ⟨A_da, n_da, c_da, rfl, o_da, hb1⟩
    go_wp2_with fail
    refine (digits5_any ((H'.out.below hbo).below hb1) (by omega)).mono ?_
    rintro e w2 ⟨A_db, n_db, c_db, rfl, o_db, hb2⟩
    have HDA := Lib.hid ((o_da.mono hbo.size).below hb2)
    have HDB := Lib.hid (o_db.mono (bt hbo hb1).size)
    have HNB : Hid (0 < n_db) := by
      show 0 < _
      rw [← HDB.out.len]
      exact List.length_pos_iff.2 fun e => by rw [dg_nil_iff D_gt] at e; have := HY0.out; omega
    have HTB : Hid (nth (dg D y) (n_db - 1) ≠ 0) := by
      have := norm_top (dg_norm (b := D) y) (by rw [HDB.out.len]; exact HNB.out)
      rw [HDB.out.len] at this
      exact this
    have l1 : n_da ≤ 4 * L := by
      rw [← HDA.out.len]
      refine dg_len D_gt ?_
      have := HX.out
      rw [W_D, ← Nat.pow_mul] at this
      exact this
    have l2 : n_db ≤ 4 * M := by
      rw [← HDB.out.len]
      refine dg_len D_gt ?_
      have := HY.out
      rw [W_D, ← Nat.pow_mul] at this
      exact this
    have CD := Lib.hid (divide5_any HDA.out.rd HDB.out.rd (dg_all D_gt x) (dg_all D_gt y) (dg_val D_gt y) HNB.out HTB.out (by omega) (by omega))
    rw [dg_val D_gt] at CD
    go_wp2_with fail
    refine CD.out.mono ?_
    rintro e wd ⟨A_q, n_q, c_q, A_r, n_r, c_r, xq, xr, rfl, o_q, a_q, v_q, l_q, o_r, a_r, v_r, l_r, hbd⟩
    have VQ := Lib.hid v_q
    have VR := Lib.hid v_r
    clear v_q v_r
    go_wp2_with fail
    refine (number5_any (o_q.dig a_q VQ.out (L := 4 * L) (by omega)) (by omega)).mono ?_
    rintro e w3 ⟨A_qn, n_qn, c_qn, rfl, o_qn, hb3, l_qn⟩
    go_wp2_with fail
    refine (number5_any ((o_r.dig a_r VR.out (L := 4 * M) (by omega)).below hb3) (by omega)).mono ?_
    rintro e w4 ⟨A_rn, n_rn, c_rn, rfl, o_rn, hb4, l_rn⟩
    have HR : Hid (Own .u64 41 w.heap.size w4 A_qn n_qn c_qn (dg W (x / y)) ∧ Own .u64 41 w.heap.size w4 A_rn n_rn c_rn (dg W (x % y)) ∧ Below w.heap.size w w4 ∧ n_qn ≤ L ∧ n_rn ≤ M) := ⟨((o_qn.mono (bt (bt (bt hbo hb1) hb2) hbd).size).below hb4), (o_rn.mono (bt (bt (bt (bt hbo hb1) hb2) hbd) hb3).size), (bt (bt (bt (bt (bt hbo hb1) hb2) hbd) hb3) hb4), by omega, by omega⟩
    go_wp2
    go_ret2
    exact ⟨_, _, _, _, _, _, rfl, HR.out⟩
  · obtain ⟨rfl, rfl, hx, hy⟩ := ht rfl
    clear ht
    have hyz := HY0.out
    have nz : ((q : Int) == 0) = false := by rw [beq_eq_false_iff_ne]; omega
    have nz2 : (q : Int) ≠ 0 := by omega
    have nz3 : ¬ q = 0 := by omega
    obtain ⟨Q, hQ⟩ : ∃ Q, Q = p / q := ⟨_, rfl⟩
    obtain ⟨R, hR⟩ : ∃ R, R = p % q := ⟨_, rfl⟩
    have eQ : (p : Int) / (q : Int) = (Q : Int) := by rw [hQ, Int.natCast_ediv]
    have eR : (p : Int) % (q : Int) = (R : Int) := by rw [hR, Int.natCast_emod]
    have hQl : Q ≤ p := by rw [hQ]; exact Nat.div_le_self _ _
    have hRl : R < q := by rw [hR]; exact Nat.mod_lt _ hyz
    have HQQ := Lib.hid hQ
    have HRR := Lib.hid hR
    clear hQ hR
    go_wp2_with fail
    refine wp_region_grow none [(true, 0), (true, 1), (true, 2), (true, 4), (true, 5), (true, 6), (false, 3), (false, 7), (true, 8), (true, 9)] (by kernel_rfl) (by kernel_rfl) ?_
    repeat (refine ord_pas (by rfl) (fun K hK => ?_); go_simp; refine hK _ _ (fun w' hw' => (by first | (go_simp; done) | (go_simp; intro hh; cases hh))) ?_; clear hK K)
    (refine ord_call (by rfl) (fun K hK => ?_); go_simp; refine hK _ _ ?_; clear hK K)
    refine (of5_any (x := Q) (by first | exact eQ | exact wrapN _ (by omega) | rfl) (by rw [W_eq]; omega)).mono ?_
    rintro e w5 ⟨A_qn, n_qn, c_qn, rfl, o_qn, hb5, l_qn⟩
    refine ⟨_, rfl, Grow.of_below hb5, ?_⟩
    (refine ord_norm (fun K hK => ?_); go_simp; refine hK _ ?_; clear hK K)
    (refine ord_call (by rfl) (fun K hK => ?_); go_simp; refine hK _ _ ?_; clear hK K)
    refine (of5_any (x := R) (by first | exact eR | exact wrapN _ (by omega) | rfl) (by rw [W_eq]; omega)).mono ?_
    rintro e w6 ⟨A_rn, n_rn, c_rn, rfl, o_rn, hb6, l_rn⟩
    refine ⟨_, rfl, Grow.of_below hb6, ?_⟩
    (refine ord_norm (fun K hK => ?_); go_simp; refine hK _ ?_; clear hK K)
    repeat (refine ord_pas (by rfl) (fun K hK => ?_); go_simp; refine hK _ _ (fun w' hw' => (by first | (go_simp; done) | (go_simp; intro hh; cases hh))) ?_; clear hK K)
    refine ord_nil ?_
    have HR : Hid (Own .u64 41 w.heap.size w6 A_qn n_qn c_qn (dg W Q) ∧ Own .u64 41 w.heap.size w6 A_rn n_rn c_rn (dg W R) ∧ Below w.heap.size w w6 ∧ n_qn ≤ L ∧ n_rn ≤ M) := ⟨((o_qn.mono (bt hbo (below_drewN _ 1)).size).below hb6), (o_rn.mono (bt (bt hbo (below_drewN _ 1)) hb5).size), (bt (bt (bt hbo (below_drewN _ 1)) hb5) hb6), by omega, by omega⟩
    go_wp2
    go_ret2
    have hr := HR.out
    rw [HQQ.out, HRR.out] at hr
    exact ⟨_, _, _, _, _, _, rfl, hr⟩
end Go.Proofs.YtamfhmmcnlollaaGreat
