/-
  Walks: mul.product, mul.Mul, Square, MulAdd, Times.
-/
import Derived.Test.YtjglonmnjcnhbaaDoorMulA
namespace Go.Proofs.YtjglonmnjcnhbaaDoor
open Go.RowKit
set_option linter.unusedVariables false

theorem val_set {xs : List Nat} {k x : Nat} (h : k < xs.length) : val W (xs.set k x) + W ^ k * nth xs k = val W xs + W ^ k * x := by
  induction xs generalizing k with
  | nil => simp at h
  | cons y ys ih =>
    cases k with
    | zero => simp [val, nth]; omega
    | succ k =>
      have := ih (k := k) (by simpa using h)
      simp only [List.set_cons_succ, val, nth, List.getElem?_cons_succ] at this ⊢
      rw [Nat.pow_succ]
      have e1 : W ^ k * W * (ys[k]?.getD 0) = W * (W ^ k * (ys[k]?.getD 0)) := by rw [Nat.mul_comm (W ^ k) W, Nat.mul_assoc]
      have e2 : W ^ k * W * x = W * (W ^ k * x) := by rw [Nat.mul_comm (W ^ k) W, Nat.mul_assoc]
      have e3 : W * (val W (ys.set k x) + W ^ k * ys[k]?.getD 0) = W * (val W ys + W ^ k * x) := by rw [this]
      rw [Nat.mul_add, Nat.mul_add] at e3
      omega
theorem nth_set_ne {xs : List Nat} {k j x : Nat} (h : k ≠ j) : nth (xs.set k x) j = nth xs j := by
  simp [nth, List.getElem?_set_ne h]

def SchI (xs ys : List Nat) (N i : Nat) (outs : List Nat) : Prop :=
  All W outs ∧ outs.length = N ∧ val W outs = val W (xs.take i) * val W ys ∧ ∀ j, i + ys.length ≤ j → nth outs j = 0
def SchJ (xs ys : List Nat) (N i j c : Nat) (outs : List Nat) : Prop :=
  All W outs ∧ outs.length = N ∧ c < W ∧ val W outs + W ^ (i + j) * c = val W (xs.take i) * val W ys + W ^ i * nth xs i * val W (ys.take j) ∧ ∀ l, i + ys.length ≤ l → nth outs l = 0
section
variable {xs ys outs : List Nat} {N i j c : Nat}
theorem SchI.enter (h : SchI xs ys N i outs) : SchJ xs ys N i 0 0 outs := by
  obtain ⟨h1, h2, h3, h4⟩ := h
  exact ⟨h1, h2, by decide, by simp [val, h3], h4⟩
theorem SchJ.step (h : SchJ xs ys N i j c outs) (hx : All W xs) (hy : All W ys) (hj : j < ys.length) (hN : i + ys.length < N) :
    SchJ xs ys N i (j + 1) (hi (nth ys j * nth xs i + c + nth outs (i + j))) (outs.set (i + j) (lo (nth ys j * nth xs i + c + nth outs (i + j)))) := by
  obtain ⟨h1, h2, h3, h4, h5⟩ := h
  have e1 := lo_hi (nth ys j * nth xs i + c + nth outs (i + j))
  have hh := (mul_words (nth ys j) (nth xs i) c (nth outs (i + j)) (hy.nth W_pos j) (hx.nth W_pos i) h3 (h1.nth W_pos _)).2.2
  have hs := val_set (xs := outs) (k := i + j) (x := lo (nth ys j * nth xs i + c + nth outs (i + j))) (by omega)
  refine ⟨h1.set (lo_lt _) _, by simpa using h2, hh, ?_, ?_⟩
  · rw [val_take_succ' ys j, Nat.mul_add]
    generalize lo (nth ys j * nth xs i + c + nth outs (i + j)) = l at *
    generalize hi (nth ys j * nth xs i + c + nth outs (i + j)) = g at *
    have e2 : W ^ (i + j) * l + W ^ (i + (j + 1)) * g = W ^ (i + j) * (nth ys j * nth xs i) + W ^ (i + j) * c + W ^ (i + j) * nth outs (i + j) := by
      rw [show i + (j + 1) = (i + j) + 1 from rfl, Nat.pow_succ, Nat.mul_assoc, ← Nat.mul_add, e1, Nat.mul_add, Nat.mul_add]
    have e3 : W ^ i * nth xs i * (W ^ j * nth ys j) = W ^ (i + j) * (nth ys j * nth xs i) := by
      rw [Nat.mul_mul_mul_comm, ← Nat.pow_add, Nat.mul_comm (nth xs i)]
    omega
  · intro l hl
    rw [nth_set_ne (by omega)]; exact h5 l hl
theorem SchJ.leave (h : SchJ xs ys N i ys.length c outs) (hi : i < xs.length) (hN : i + ys.length < N) : SchI xs ys N (i + 1) (outs.set (i + ys.length) c) := by
  obtain ⟨h1, h2, h3, h4, h5⟩ := h
  have hs := val_set (xs := outs) (k := i + ys.length) (x := c) (by omega)
  rw [h5 _ (Nat.le_refl _), Nat.mul_zero, Nat.add_zero] at hs
  refine ⟨h1.set h3 _, by simpa using h2, ?_, ?_⟩
  · rw [hs, h4, List.take_length, val_take_succ' xs i, Nat.add_mul]
  · intro l hl
    rw [nth_set_ne (by omega)]; exact h5 l (by omega)
end

set_option maxHeartbeats 2000000 in
set_option maxRecDepth 100000 in
theorem school_le {b1 o1 b2 o2 n c m c2 : Nat} {xs ys : List Nat} {w : World} (h : Rd .u64 w (some ⟨b1, o1, none⟩) n c xs) (h' : Rd .u64 w (some ⟨b2, o2, none⟩) m c2 ys) (hx : All W xs) (hy : All W ys) (hnm : n ≤ m) (hm : m ≤ 137438953472) (h0 : 0 < n) (h40 : n < 40) :
    Calls Tryd.prog 42 #[.slice (some ⟨b1, o1, none⟩) n c, .slice (some ⟨b2, o2, none⟩) m c2] w (GN w (val W xs * val W ys) (n + m)) := by
  have H := Lib.hid h
  have H' := Lib.hid h'
  have HX := Lib.hid hx
  have HY := Lib.hid hy
  have HE := Lib.hid elN
  have q1 : ((n : Int) == 0) = false := by rw [beq_eq_false_iff_ne]; omega
  clear h h' hx hy
  have hb1 := H.out.lt (i := 0) h0
  have hb2 := H'.out.lt (i := 0) (by omega)
  go_enter Tryd.func42, Tryd.ntmps42
  go_wp2_with (at_make; refine wpList_mk rfl (.tmp 33) (.tmp 33) rfl HE.out w.heap.size (n + m) rfl rfl (by simp) (by simp) (by omega) (Nat.le_refl _) ?_; intro w1 ho1 hg1 hbl1)
  have HO : Hid (SchI xs ys (n + m) 0 (List.replicate (n + m) 0) ∧ Own .u64 27 w.heap.size w1 (some ⟨w.heap.size, 0, none⟩) (n + m) (n + m) (List.replicate (n + m) 0) ∧ Below w.heap.size w w1) :=
    ⟨⟨All.replicate W_pos, List.length_replicate, by simp [val, val_replicate], fun j hj => by simp [nth, List.getElem?_replicate]; split <;> rfl⟩, ho1, hbl1⟩
  clear ho1 hbl1 hg1
  go_loopw [37] (fun i wr => ∃ (k : Nat) (outs : List Nat), Hid (SchI xs ys (n + m) k outs ∧ Own .u64 27 w.heap.size wr (some ⟨w.heap.size, 0, none⟩) (n + m) (n + m) outs ∧ Below w.heap.size w wr) ∧ k ≤ n ∧ i = .int .i64 k) (fun i _ => n - (intOf i).toNat)
  case atStart => exact ⟨0, _, HO, Nat.zero_le _, rfl⟩
  case round =>
    obtain ⟨k, outs, hI, hk, rfl⟩ := hrel
    obtain ⟨wo, rfl⟩ : ∃ wo : World, wo = wr := ⟨_, rfl⟩
    by_cases hlt : k < n
    · obtain ⟨b, off, e, hb, hca⟩ := (H.out.below hI.out.2.2).at hlt
      injection e with e; injection e with e1 e2
      subst e1 e2
      go_wp2
      go_loopw [8, 44] (fun cv j wr => ∃ (l cn : Nat) (outs : List Nat), Hid (SchJ xs ys (n + m) k l cn outs ∧ Own .u64 27 w.heap.size wr (some ⟨w.heap.size, 0, none⟩) (n + m) (n + m) outs ∧ Below w.heap.size w wr) ∧ l ≤ m ∧ cv = .int .u64 cn ∧ j = .int .i64 l) (fun _ j _ => m - (intOf j).toNat)
      case atStart => exact ⟨0, 0, outs, ⟨hI.out.1.enter, hI.out.2.1, hI.out.2.2⟩, Nat.zero_le _, rfl, rfl⟩
      case round =>
        obtain ⟨l, cn, outs1, hJ, hl, rfl, rfl⟩ := hrel
        by_cases hlt2 : l < m
        · obtain ⟨b, off, e, hb, hcb⟩ := (H'.out.below hJ.out.2.2).at hlt2
          injection e with e; injection e with e1 e2
          subst e1 e2
          have hcell := hJ.out.2.1.cell (i := k + l) (by omega)
          have hfr := hJ.out.2.1.frozen (i := k + l)
          have c1 := Lib.hid (mulW_any (nth ys l) (nth xs k) cn (nth outs1 (k + l)) wr (HY.out.nth W_pos l) (HX.out.nth W_pos k) hJ.out.1.2.2.1 (hJ.out.1.1.nth W_pos _) rfl rfl rfl rfl)
          go_wp2_with (go_at_call 76; refine c1.out.mono ?_; rintro e w' ⟨rfl, rfl⟩)
          go_roundw
          case rel =>
            exact ⟨l + 1, _, _, ⟨hJ.out.1.step HX.out HY.out (by rw [H'.out.len]; exact hlt2) (by rw [H'.out.len]; omega), hJ.out.2.1.stored, hJ.out.2.2.setCell (Nat.le_refl _) _⟩, by omega, rfl, by go_num⟩
          case measure => simp [intOf]; omega
        · obtain rfl : l = m := by omega
          have hcell := hJ.out.2.1.cell (i := k + l) (by omega)
          have hfr := hJ.out.2.1.frozen (i := k + l)
          go_wp2
          go_roundw
          case rel =>
            have e := H'.out.len
            have h1 := hJ.out.1
            subst e
            exact ⟨k + 1, _, ⟨h1.leave (by rw [H.out.len]; exact hlt) (by omega), hJ.out.2.1.stored, hJ.out.2.2.setCell (Nat.le_refl _) _⟩, by omega, by go_num⟩
          case measure => simp [intOf]; omega
    · obtain rfl : k = n := by omega
      have hN : Num wo (.slice (some ⟨w.heap.size, 0, none⟩) (k + m) (k + m)) (val W xs * val W ys) (k + m) :=
        hI.out.2.1.numv hI.out.1.1 (by have := hI.out.1.2.2.1; rw [List.take_of_length_le (by rw [H.out.len]; exact Nat.le_refl _)] at this; exact this) (Nat.le_refl _)
      have HN := Lib.hid hN
      clear hN
      go_wp2_with (go_at_call 68; refine (trimN_any HN.out (by omega)).mono ?_; rintro e w2 ⟨A2, n2, c2, rfl, ho2, hb2, hl2⟩)
      go_ret
      exact ⟨_, _, _, rfl, ho2.mono hI.out.2.2.size, bt hI.out.2.2 hb2, hl2⟩
set_option maxHeartbeats 2000000 in
set_option maxRecDepth 100000 in
theorem school_gt {b1 o1 b2 o2 n c m c2 : Nat} {xs ys : List Nat} {w : World} (h : Rd .u64 w (some ⟨b1, o1, none⟩) n c xs) (h' : Rd .u64 w (some ⟨b2, o2, none⟩) m c2 ys) (hx : All W xs) (hy : All W ys) (hnm : n < m) (hm : m ≤ 137438953472) (h0 : 0 < n) (h40 : n < 40) :
    Calls Tryd.prog 42 #[.slice (some ⟨b2, o2, none⟩) m c2, .slice (some ⟨b1, o1, none⟩) n c] w (GN w (val W xs * val W ys) (n + m)) := by
  have H := Lib.hid h
  have H' := Lib.hid h'
  have HX := Lib.hid hx
  have HY := Lib.hid hy
  have HE := Lib.hid elN
  have q1 : ((n : Int) == 0) = false := by rw [beq_eq_false_iff_ne]; omega
  clear h h' hx hy
  have hb1 := H.out.lt (i := 0) h0
  have hb2 := H'.out.lt (i := 0) (by omega)
  go_enter Tryd.func42, Tryd.ntmps42
  go_wp2_with (at_make; refine wpList_mk rfl (.tmp 33) (.tmp 33) rfl HE.out w.heap.size (n + m) rfl rfl (by simp) (by simp) (by omega) (Nat.le_refl _) ?_; intro w1 ho1 hg1 hbl1)
  have HO : Hid (SchI xs ys (n + m) 0 (List.replicate (n + m) 0) ∧ Own .u64 27 w.heap.size w1 (some ⟨w.heap.size, 0, none⟩) (n + m) (n + m) (List.replicate (n + m) 0) ∧ Below w.heap.size w w1) :=
    ⟨⟨All.replicate W_pos, List.length_replicate, by simp [val, val_replicate], fun j hj => by simp [nth, List.getElem?_replicate]; split <;> rfl⟩, ho1, hbl1⟩
  clear ho1 hbl1 hg1
  go_loopw [37] (fun i wr => ∃ (k : Nat) (outs : List Nat), Hid (SchI xs ys (n + m) k outs ∧ Own .u64 27 w.heap.size wr (some ⟨w.heap.size, 0, none⟩) (n + m) (n + m) outs ∧ Below w.heap.size w wr) ∧ k ≤ n ∧ i = .int .i64 k) (fun i _ => n - (intOf i).toNat)
  case atStart => exact ⟨0, _, HO, Nat.zero_le _, rfl⟩
  case round =>
    obtain ⟨k, outs, hI, hk, rfl⟩ := hrel
    obtain ⟨wo, rfl⟩ : ∃ wo : World, wo = wr := ⟨_, rfl⟩
    by_cases hlt : k < n
    · obtain ⟨b, off, e, hb, hca⟩ := (H.out.below hI.out.2.2).at hlt
      injection e with e; injection e with e1 e2
      subst e1 e2
      go_wp2
      go_loopw [8, 44] (fun cv j wr => ∃ (l cn : Nat) (outs : List Nat), Hid (SchJ xs ys (n + m) k l cn outs ∧ Own .u64 27 w.heap.size wr (some ⟨w.heap.size, 0, none⟩) (n + m) (n + m) outs ∧ Below w.heap.size w wr) ∧ l ≤ m ∧ cv = .int .u64 cn ∧ j = .int .i64 l) (fun _ j _ => m - (intOf j).toNat)
      case atStart => exact ⟨0, 0, outs, ⟨hI.out.1.enter, hI.out.2.1, hI.out.2.2⟩, Nat.zero_le _, rfl, rfl⟩
      case round =>
        obtain ⟨l, cn, outs1, hJ, hl, rfl, rfl⟩ := hrel
        by_cases hlt2 : l < m
        · obtain ⟨b, off, e, hb, hcb⟩ := (H'.out.below hJ.out.2.2).at hlt2
          injection e with e; injection e with e1 e2
          subst e1 e2
          have hcell := hJ.out.2.1.cell (i := k + l) (by omega)
          have hfr := hJ.out.2.1.frozen (i := k + l)
          have c1 := Lib.hid (mulW_any (nth ys l) (nth xs k) cn (nth outs1 (k + l)) wr (HY.out.nth W_pos l) (HX.out.nth W_pos k) hJ.out.1.2.2.1 (hJ.out.1.1.nth W_pos _) rfl rfl rfl rfl)
          go_wp2_with (go_at_call 76; refine c1.out.mono ?_; rintro e w' ⟨rfl, rfl⟩)
          go_roundw
          case rel =>
            exact ⟨l + 1, _, _, ⟨hJ.out.1.step HX.out HY.out (by rw [H'.out.len]; exact hlt2) (by rw [H'.out.len]; omega), hJ.out.2.1.stored, hJ.out.2.2.setCell (Nat.le_refl _) _⟩, by omega, rfl, by go_num⟩
          case measure => simp [intOf]; omega
        · obtain rfl : l = m := by omega
          have hcell := hJ.out.2.1.cell (i := k + l) (by omega)
          have hfr := hJ.out.2.1.frozen (i := k + l)
          go_wp2
          go_roundw
          case rel =>
            have e := H'.out.len
            have h1 := hJ.out.1
            subst e
            exact ⟨k + 1, _, ⟨h1.leave (by rw [H.out.len]; exact hlt) (by omega), hJ.out.2.1.stored, hJ.out.2.2.setCell (Nat.le_refl _) _⟩, by omega, by go_num⟩
          case measure => simp [intOf]; omega
    · obtain rfl : k = n := by omega
      have hN : Num wo (.slice (some ⟨w.heap.size, 0, none⟩) (k + m) (k + m)) (val W xs * val W ys) (k + m) :=
        hI.out.2.1.numv hI.out.1.1 (by have := hI.out.1.2.2.1; rw [List.take_of_length_le (by rw [H.out.len]; exact Nat.le_refl _)] at this; exact this) (Nat.le_refl _)
      have HN := Lib.hid hN
      clear hN
      go_wp2_with (go_at_call 68; refine (trimN_any HN.out (by omega)).mono ?_; rintro e w2 ⟨A2, n2, c2, rfl, ho2, hb2, hl2⟩)
      go_ret
      exact ⟨_, _, _, rfl, ho2.mono hI.out.2.2.size, bt hI.out.2.2 hb2, hl2⟩

set_option maxHeartbeats 1000000 in
theorem prod0_le {A A2 : Option Addr} {n c m c2 x : Nat} {w : World} (hn : n = 0) (hnm : n ≤ m) :
    Calls Tryd.prog 42 #[.slice A n c, .slice A2 m c2] w (GN w (0 * x) (n + m)) := by
  subst hn
  go_enter Tryd.func42, Tryd.ntmps42
  go_wp2
  go_ret
  exact ⟨none, 0, 0, rfl, Own.nilx (by rw [Nat.zero_mul, dg_zero W_gt]), Below.refl _ _, Nat.zero_le _⟩
set_option maxHeartbeats 1000000 in
theorem prod40_le (M : Nat) (ih : ∀ M', M' < M → ProdSaid M') (hM : M ≤ 137438953472) {A A2 : Option Addr} {n c m c2 x y : Nat} {w : World} (h : Num w (.slice A n c) x n) (h' : Num w (.slice A2 m c2) y m) (hnm : n ≤ m) (h40 : 40 ≤ n) (hmM : m ≤ M) :
    Calls Tryd.prog 42 #[.slice A n c, .slice A2 m c2] w (GN w (x * y) (n + m)) := by
  have C := Lib.hid (halves_of M ih hM h h' (by omega) h40 hmM)
  have q1 : ((n : Int) == 0) = false := by rw [beq_eq_false_iff_ne]; omega
  clear h h' ih hM hmM
  go_enter Tryd.func42, Tryd.ntmps42
  go_wp2_with (go_at_call 75; refine C.out.mono ?_; rintro e w1 ⟨A1, n1, c1, rfl, ho1, hb1, hl1⟩)
  go_ret
  exact ⟨_, _, _, rfl, ho1, hb1, hl1⟩
set_option maxHeartbeats 1000000 in
theorem prod0_gt {A A2 : Option Addr} {n c m c2 x : Nat} {w : World} (hn : n = 0) (hnm : n < m) :
    Calls Tryd.prog 42 #[.slice A2 m c2, .slice A n c] w (GN w (0 * x) (n + m)) := by
  subst hn
  go_enter Tryd.func42, Tryd.ntmps42
  go_wp2
  go_ret
  exact ⟨none, 0, 0, rfl, Own.nilx (by rw [Nat.zero_mul, dg_zero W_gt]), Below.refl _ _, Nat.zero_le _⟩
set_option maxHeartbeats 1000000 in
theorem prod40_gt (M : Nat) (ih : ∀ M', M' < M → ProdSaid M') (hM : M ≤ 137438953472) {A A2 : Option Addr} {n c m c2 x y : Nat} {w : World} (h : Num w (.slice A n c) x n) (h' : Num w (.slice A2 m c2) y m) (hnm : n < m) (h40 : 40 ≤ n) (hmM : m ≤ M) :
    Calls Tryd.prog 42 #[.slice A2 m c2, .slice A n c] w (GN w (x * y) (n + m)) := by
  have C := Lib.hid (halves_of M ih hM h h' (by omega) h40 hmM)
  have q1 : ((n : Int) == 0) = false := by rw [beq_eq_false_iff_ne]; omega
  clear h h' ih hM hmM
  go_enter Tryd.func42, Tryd.ntmps42
  go_wp2_with (go_at_call 75; refine C.out.mono ?_; rintro e w1 ⟨A1, n1, c1, rfl, ho1, hb1, hl1⟩)
  go_ret
  exact ⟨_, _, _, rfl, ho1, hb1, hl1⟩

theorem prod_all (M : Nat) (hM : M ≤ 137438953472) : ProdSaid M := by
  induction M using Nat.strongRecOn with
  | _ M ih0 =>
    have ih : ∀ M', M' < M → ProdSaid M' := fun M' h => ih0 M' h (by omega)
    intro w v u x y L K h h' hL hK
    obtain ⟨A, n, c, xs, rfl, h1, h2, h3, h4⟩ := h
    obtain ⟨A2, m, c2, ys, rfl, k1, k2, k3, k4⟩ := h'
    have N1 : Num w (.slice A n c) x n := ⟨A, n, c, xs, rfl, h1, h2, h3, Nat.le_refl _⟩
    have N2 : Num w (.slice A2 m c2) y m := ⟨A2, m, c2, ys, rfl, k1, k2, k3, Nat.le_refl _⟩
    have z : ∀ {xs : List Nat} {n x : Nat}, xs.length = n → n = 0 → val W xs = x → x = 0 := by
      intro xs n x e1 e2 e3
      rw [List.eq_nil_of_length_eq_zero (e1.trans e2)] at e3
      exact e3.symm
    have fin : ∀ e w', GN w (x * y) (n + m) e w' → GN w (x * y) (L + K) e w' := by
      rintro e w' ⟨A, n1, c, he, ho, hb, hl⟩
      exact ⟨A, n1, c, he, ho, hb, by omega⟩
    have fin2 : ∀ e w', GN w (y * x) (m + n) e w' → GN w (x * y) (L + K) e w' := by
      rw [Nat.mul_comm y x, Nat.add_comm m n]; exact fin
    by_cases hnm : n ≤ m
    · by_cases h0 : n = 0
      · have hx := z h1.len h0 h3
        subst hx
        exact (prod0_le h0 hnm).mono fin
      · by_cases h40 : n < 40
        · obtain ⟨b, off, e, _, _⟩ := h1.2 (by omega)
          obtain ⟨b', off', e', _, _⟩ := k1.2 (by omega)
          subst e e' h3 k3
          exact (school_le h1 k1 h2 k2 hnm (by omega) (by omega) h40).mono fin
        · exact (prod40_le M ih hM N1 N2 hnm (by omega) (by omega)).mono fin
    · by_cases h0 : m = 0
      · have hx := z k1.len h0 k3
        subst hx
        exact (prod0_gt h0 (by omega)).mono fin2
      · by_cases h40 : m < 40
        · obtain ⟨b, off, e, _, _⟩ := h1.2 (by omega)
          obtain ⟨b', off', e', _, _⟩ := k1.2 (by omega)
          subst e e' h3 k3
          exact (school_gt k1 h1 k2 h2 (by omega) (by omega) (by omega) h40).mono fin2
        · exact (prod40_gt M ih hM N2 N1 (by omega) (by omega) (by omega)).mono fin2
theorem product_any {v u : Value} {x y L K : Nat} {w : World} (h : Num w v x L) (h' : Num w u y K) (hL : L ≤ 137438953472) (hK : K ≤ 137438953472) :
    Calls Tryd.prog 42 #[v, u] w (GN w (x * y) (L + K)) := prod_all 137438953472 (Nat.le_refl _) w v u x y L K h h' hL hK

set_option maxHeartbeats 400000 in
theorem mul_any {v u : Value} {x y L K : Nat} {w : World} (h : Num w v x L) (h' : Num w u y K) (hL : L ≤ 137438953472) (hK : K ≤ 137438953472) :
    Calls Tryd.prog 14 #[v, u] w (GN w (x * y) (L + K)) := by
  have H := Lib.hid h
  have H' := Lib.hid h'
  clear h h'
  go_enter Tryd.func14, Tryd.ntmps14
  go_wp2_with fail
  refine (nnorm_any H.out (by omega)).mono ?_
  rintro e w1 ⟨A_x1, n_x1, c_x1, rfl, o_x1, hb1, l_x1⟩
  go_wp2_with fail
  refine (nnorm_any (H'.out.below hb1) (by omega)).mono ?_
  rintro e w2 ⟨A_x2, n_x2, c_x2, rfl, o_x2, hb2, l_x2⟩
  go_wp2_with fail
  refine (product_any ((o_x1.num l_x1).below hb2) (o_x2.num l_x2) (by omega) (by omega)).mono ?_
  rintro e w3 ⟨A_r, n_r, c_r, rfl, o_r, hb3, l_r⟩
  go_wp2
  go_ret
  exact ⟨_, _, _, rfl, (o_r.mono (bt hb1 hb2).size), (bt (bt hb1 hb2) hb3), l_r⟩

set_option maxHeartbeats 400000 in
theorem square_any {v : Value} {x L : Nat} {w : World} (h : Num w v x L) (hL : L ≤ 137438953472) :
    Calls Tryd.prog 26 #[v] w (GN w (x * x) (L + L)) := by
  have H := Lib.hid h
  clear h
  go_enter Tryd.func26, Tryd.ntmps26
  go_wp2_with fail
  refine (mul_any H.out H.out (by omega) (by omega)).mono ?_
  rintro e w1 ⟨A_r, n_r, c_r, rfl, o_r, hb1, l_r⟩
  go_wp2
  go_ret
  exact ⟨_, _, _, rfl, o_r, hb1, l_r⟩

end Go.Proofs.YtjglonmnjcnhbaaDoor
