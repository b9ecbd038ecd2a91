/-
  Numbers in memory (Num), what a call gives that answers a number (GN, GNE); nat.Norm, nat.Add, nat.Sub by values.
-/
import Derived.Test.YtamfhmmcnlollaaGreatLimbC
namespace Go.Proofs.YtamfhmmcnlollaaGreat
open Go.RowKit
set_option linter.unusedVariables false

/-- the value is a slice of words, of the number x, at most L words -/
def Num (w : World) (v : Value) (x L : Nat) : Prop :=
  ∃ A n c xs, v = .slice A n c ∧ Rd .u64 w A n c xs ∧ All W xs ∧ val W xs = x ∧ n ≤ L
/-- a new number in its own form -/
def GN (w : World) (x L : Nat) (e : Ending) (w' : World) : Prop :=
  ∃ A n c, e = .returned (.slice A n c) ∧ Own .u64 41 w.heap.size w' A n c (dg W x) ∧ Below w.heap.size w w' ∧ n ≤ L
/-- a new number of that value -/
def GV (w : World) (x L : Nat) (e : Ending) (w' : World) : Prop :=
  ∃ A n c xs, e = .returned (.slice A n c) ∧ Own .u64 41 w.heap.size w' A n c xs ∧ All W xs ∧ val W xs = x ∧ Below w.heap.size w w' ∧ n ≤ L
/-- a new number in its own form, and an error's number -/
def GNE (w : World) (x L : Nat) (er : Int) (e : Ending) (w' : World) : Prop :=
  ∃ A n c, e = .returned (.tuple #[.slice A n c, .int .i64 er]) ∧ Own .u64 41 w.heap.size w' A n c (dg W x) ∧ Below w.heap.size w w' ∧ n ≤ L

theorem bt {w w1 w2 : World} (h1 : Below w.heap.size w w1) (h2 : Below w1.heap.size w1 w2) : Below w.heap.size w w2 := h1.trans (h2.mono h1.size)

theorem bd {w w1 : World} (h : Below w.drew.heap.size w.drew w1) : Below w.heap.size w w1 := ⟨h.os, h.tape, h.output, h.size, h.block⟩
section
variable {w w' : World} {v : Value} {x L L' : Nat} {A : Option Addr} {n c B : Nat} {xs : List Nat} {t : TypeId}
theorem Num.below (h : Num w v x L) (hb : Below w.heap.size w w') : Num w' v x L := by
  obtain ⟨A, n, c, xs, e, h1, h2⟩ := h
  exact ⟨A, n, c, xs, e, h1.below hb, h2⟩
theorem Num.drew (h : Num w v x L) : Num w.drew v x L := h
theorem Num.mono (h : Num w v x L) (hl : L ≤ L') : Num w v x L' := by
  obtain ⟨A, n, c, xs, e, h1, h2, h3, h4⟩ := h
  exact ⟨A, n, c, xs, e, h1, h2, h3, by omega⟩
theorem Num.lt (h : Num w v x L) : x < W ^ L := by
  obtain ⟨A, n, c, xs, e, h1, h2, h3, h4⟩ := h
  have := val_lt h2
  rw [h1.len, h3] at this
  exact Nat.lt_of_lt_of_le this (Nat.pow_le_pow_right W_pos h4)
theorem Own.num (h : Own .u64 t B w A n c (dg W x)) (hl : n ≤ L) : Num w (.slice A n c) x L :=
  ⟨A, n, c, dg W x, rfl, h.rd, dg_all W_gt x, dg_val W_gt x, hl⟩
theorem Own.numv (h : Own .u64 t B w A n c xs) (ha : All W xs) (hv : val W xs = x) (hl : n ≤ L) : Num w (.slice A n c) x L :=
  ⟨A, n, c, xs, rfl, h.rd, ha, hv, hl⟩
theorem Rd.num (h : Rd .u64 w A n c xs) (ha : All W xs) (hl : n ≤ L) : Num w (.slice A n c) (val W xs) L := ⟨A, n, c, xs, rfl, h, ha, rfl, hl⟩
theorem Num.nil : Num w (.slice none 0 0) 0 0 := ⟨none, 0, 0, [], rfl, Rd.nil, All.nil, rfl, Nat.le_refl _⟩
theorem Own.alloc {k : IntKind} (h : Own k t B w A n c xs) (o : Obj) : Own k t B (w.alloc o) A n c xs := World.ownsRow.alloc h o
theorem Own.nilx {k : IntKind} (h : xs = []) : Own k t B w none 0 0 xs := by subst h; exact Own.nil
end
/-- a slice literal of words -/
theorem Num.lit {t : TypeId} {b : Nat} (w : World) (zs : List Nat) (hb : b = w.heap.size) (hz : All W zs ∧ zs.length ≤ 1000) : Num (w.alloc (.cells (zs.map (iv .u64)).toArray t)) (.slice (some ⟨b, 0, none⟩) zs.length zs.length) (val W zs) zs.length := by
  subst hb
  exact (Own.lit (k := .u64) (t := t) (B := 0) w zs (by have := hz.2; simp only [maxLen]; omega) (Nat.zero_le _)).rd.num hz.1 (Nat.le_refl _)
theorem Rd.litn {k : IntKind} {t : TypeId} {b : Nat} (w : World) (zs : List Nat) (hb : b = w.heap.size) (hz : zs.length ≤ 1000) : Rd k (w.alloc (.cells (zs.map (iv k)).toArray t)) (some ⟨b, 0, none⟩) zs.length zs.length zs := by
  subst hb
  exact (Own.lit (k := k) (t := t) (B := 0) w zs (by simp only [maxLen]; omega) (Nat.zero_le _)).rd
theorem dgl {x L : Nat} (h : x < W ^ L) : (dg W x).length ≤ L := dg_len W_gt h
theorem lt_add {x y a b : Nat} (h : x < W ^ a) (h' : y < W ^ b) : x + y < W ^ (max a b + 1) := by
  have h1 : W ^ a ≤ W ^ max a b := Nat.pow_le_pow_right W_pos (by omega)
  have h2 : W ^ b ≤ W ^ max a b := Nat.pow_le_pow_right W_pos (by omega)
  rw [Nat.pow_succ]
  have : W ^ max a b * 2 ≤ W ^ max a b * W := Nat.mul_le_mul_left _ (by decide)
  omega
theorem lt_mul {x y a b : Nat} (h : x < W ^ a) (h' : y < W ^ b) : x * y < W ^ (a + b) := by
  rw [Nat.pow_add]
  exact Nat.mul_lt_mul'' h h'
theorem strip_carry {N s : Nat} (h : s / W ^ N < W) : strip (wds W N s ++ [s / W ^ N]) = dg W s := by
  rw [strip_eq_dg W_gt ((wds_all W_pos N s).append (All.cons h All.nil)), val_append, val_wds, wds_length]
  simp only [val, Nat.mul_zero, Nat.add_zero]
  rw [Nat.mod_add_div]

set_option maxHeartbeats 400000 in
theorem nnorm_any {v : Value} {x L : Nat} {w : World} (h : Num w v x L) (hL : L ≤ 1099511627776) : Calls Tryz.prog 77 #[v] w (GN w x L) := by
  obtain ⟨A, n, c, xs, rfl, h1, h2, h3, h4⟩ := h
  refine (norm_any A n c xs w h1 (by omega)).mono ?_
  rintro e w1 ⟨A1, n1, c1, rfl, ho, hb⟩
  rw [strip_eq_dg W_gt h2, h3] at ho
  refine ⟨A1, n1, c1, rfl, ho, hb, ?_⟩
  rw [← ho.len]
  refine dgl ?_
  rw [← h3]
  refine Nat.lt_of_lt_of_le (val_lt h2) (Nat.pow_le_pow_right W_pos (by rw [h1.len]; exact h4))

set_option maxHeartbeats 400000 in
theorem nown_any {v : Value} {x L : Nat} {w : World} (h : Num w v x L) (hL : L ≤ 1099511627776) : Calls Tryz.prog 127 #[v] w (GN w x L) := by
  obtain ⟨A, n, c, xs, rfl, h1, h2, h3, h4⟩ := h
  refine (own_any A n c xs w h1 (by omega)).mono ?_
  rintro e w1 ⟨A1, n1, c1, rfl, ho, hb⟩
  rw [strip_eq_dg W_gt h2, h3] at ho
  refine ⟨A1, n1, c1, rfl, ho, hb, ?_⟩
  rw [← ho.len]
  refine dgl ?_
  rw [← h3]
  refine Nat.lt_of_lt_of_le (val_lt h2) (Nat.pow_le_pow_right W_pos (by rw [h1.len]; exact h4))

set_option maxHeartbeats 400000 in
theorem trimN_any {v : Value} {x L : Nat} {w : World} (h : Num w v x L) (hL : L ≤ 1099511627776) : Calls Tryz.prog 157 #[v] w (GN w x L) := by
  obtain ⟨A, n, c, xs, rfl, h1, h2, h3, h4⟩ := h
  refine (trim_any A n c xs w h1 (by omega)).mono ?_
  rintro e w1 ⟨A1, n1, c1, rfl, ho, hb⟩
  rw [strip_eq_dg W_gt h2, h3] at ho
  refine ⟨A1, n1, c1, rfl, ho, hb, ?_⟩
  rw [← ho.len]
  refine dgl ?_
  rw [← h3]
  refine Nat.lt_of_lt_of_le (val_lt h2) (Nat.pow_le_pow_right W_pos (by rw [h1.len]; exact h4))

theorem carry_lt {x y n m : Nat} (h : x < W ^ n) (h' : y < W ^ m) : (x + y) / W ^ (max n m) < W := by
  have := lt_add h h'
  rw [Nat.pow_succ] at this
  exact Nat.div_lt_of_lt_mul this

set_option maxHeartbeats 1000000 in
theorem nadd_any {v u : Value} {x y L M : Nat} {w : World} (h : Num w v x L) (h' : Num w u y M) (hL : L ≤ 549755813888) (hM : M ≤ 549755813888) :
    Calls Tryz.prog 112 #[v, u] w (GN w (x + y) (max L M + 1)) := by
  have hlt := Lib.hid (lt_add h.lt h'.lt)
  obtain ⟨A, n, c, xs, rfl, h1, h2, h3, h4⟩ := h
  obtain ⟨A2, m, c2, ys, rfl, k1, k2, k3, k4⟩ := h'
  have C := Lib.hid (ladd_any A A2 n c m c2 xs ys w h1 k1 h2 k2 (by omega) (by omega))
  have hx : x < W ^ n := by rw [← h3, ← h1.len]; exact val_lt h2
  have hy : y < W ^ m := by rw [← k3, ← k1.len]; exact val_lt k2
  have HS := Lib.hid (strip_carry (carry_lt hx hy))
  have HC := Lib.hid (carry_lt hx hy)
  rw [h3, k3] at C
  obtain ⟨N, hN⟩ : ∃ N, N = max n m := ⟨_, rfl⟩
  rw [← hN] at C HS HC
  have hNB : N ≤ 549755813888 := by omega
  have HW : Hid ((wds W N (x + y)).length ≤ 549755813888) := by show _ ≤ _; rw [wds_length]; omega
  have HE := Lib.hid elW
  generalize hds : wds W N (x + y) = ds at C HS HW
  generalize hcr : (x + y) / W ^ N = cr at C HS HC
  clear h1 h2 h3 h4 k1 k2 k3 k4 hx hy hL hM hN hNB hds hcr
  go_enter Tryz.func112, Tryz.ntmps112
  go_wp2_with fail
  refine C.out.mono ?_
  rintro e w1 ⟨A1, n1, c1, rfl, ho1, hb1⟩
  go_wp2_with fail
  refine (clone_any A1 n1 c1 ds w1 ho1.rd (by have := HW.out; have := ho1.len; omega)).mono ?_
  rintro e w2 ⟨A3, n3, c3, rfl, ho3, hb3⟩
  have HL3 : Hid (n3 ≤ 549755813888) := by show _ ≤ _; have := HW.out; have := ho3.len; omega
  go_wp2_with (at_builtin; (refine wpList_app rfl (.tmp 14) (.tmp 16) rfl HE.out (t := 41) (k := .u64) (B := w1.heap.size) (xs := ds) (ys := [cr]) rfl rfl (ho3.alloc _) (Rd.lit1 w2 cr) (by have := HL3.out; simp; omega) (by have := hb3.size; simp; omega) ?_); intro A4 c4 w4 ho4 hb4 _ _)
  refine (own_any A4 _ c4 _ w4 ho4.rd (by have := HL3.out; simp; omega)).mono ?_
  rintro e w5 ⟨A5, n5, c5, rfl, ho5, hb5⟩
  go_wp2
  go_ret
  rw [HS.out] at ho5
  have b2 : Below w.heap.size w w2 := bt hb1 hb3
  have b4 : Below w.heap.size w w4 := (b2.alloc b2.size _).trans (hb4.mono hb1.size)
  refine ⟨A5, n5, c5, rfl, ho5.mono b4.size, bt b4 hb5, ?_⟩
  rw [← ho5.len]
  exact dgl hlt.out

theorem nsubE_any {v u : Value} {x y L M : Nat} {w : World} (h : Num w v x L) (h' : Num w u y M) (hL : L ≤ 1099511627776) (hM : M ≤ 1099511627776) (hle : y ≤ x) :
    Calls Tryz.prog 129 #[v, u] w (GNE w (x - y) L 0) := by
  have hlt := h.lt
  obtain ⟨A, n, c, xs, rfl, h1, h2, h3, h4⟩ := h
  obtain ⟨A2, m, c2, ys, rfl, k1, k2, k3, k4⟩ := h'
  subst h3 k3
  refine (nsub_any A A2 n c m c2 xs ys w h1 k1 h2 k2 (by omega) (by omega) hle).mono ?_
  rintro e w1 ⟨A1, n1, c1, rfl, ho, hb⟩
  refine ⟨A1, n1, c1, rfl, ho, hb, ?_⟩
  rw [← ho.len]
  exact dgl (by omega)
end Go.Proofs.YtamfhmmcnlollaaGreat
