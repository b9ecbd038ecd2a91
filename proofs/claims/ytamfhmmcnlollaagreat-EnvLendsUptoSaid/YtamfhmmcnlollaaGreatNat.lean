/-
  Numbers in memory (Num), what a call gives that answers a number (GN, GNE); nat.Norm, nat.Add, nat.Sub by values.
-/
import Derived.Test.YtamfhmmcnlollaaGreatLimbC
namespace Go.Proofs.YtamfhmmcnlollaaGreat
open Go.RowKit
set_option linter.unusedVariables false

/-- the value is a slice of words, of the number x, at most L words -/
def Num (w : World) (v : Value) (x L : Nat) : Prop :=
  ∃ A n c xs, v = .slice A n c ∧ Rd .u64 w A n c xs ∧ All W xs ∧ val W xs = x ∧ n ≤ L
/-- a new number in its own form -/
def GN (w : World) (x L : Nat) (e : Ending) (w' : World) : Prop :=
  ∃ A n c, e = .returned (.slice A n c) ∧ Own .u64 41 w.heap.size w' A n c (dg W x) ∧ Below w.heap.size w w' ∧ n ≤ L
/-- a new number in its own form, and an error's number -/
def GNE (w : World) (x L : Nat) (er : Int) (e : Ending) (w' : World) : Prop :=
  ∃ A n c, e = .returned (.tuple #[.slice A n c, .int .i64 er]) ∧ Own .u64 41 w.heap.size w' A n c (dg W x) ∧ Below w.heap.size w w' ∧ n ≤ L

theorem bt {w w1 w2 : World} (h1 : Below w.heap.size w w1) (h2 : Below w1.heap.size w1 w2) : Below w.heap.size w w2 := h1.trans (h2.mono h1.size)

theorem bd {w w1 : World} (h : Below w.drew.heap.size w.drew w1) : Below w.heap.size w w1 := ⟨h.os, h.tape, h.output, h.size, h.block⟩
section
variable {w w' : World} {v : Value} {x L L' : Nat} {A : Option Addr} {n c B : Nat} {xs : List Nat} {t : TypeId}
theorem Num.below (h : Num w v x L) (hb : Below w.heap.size w w') : Num w' v x L := by
  obtain ⟨A, n, c, xs, e, h1, h2⟩ := h
  exact ⟨A, n, c, xs, e, h1.below hb, h2⟩
theorem Num.drew (h : Num w v x L) : Num w.drew v x L := h
theorem Num.mono (h : Num w v x L) (hl : L ≤ L') : Num w v x L' := by
  obtain ⟨A, n, c, xs, e, h1, h2, h3, h4⟩ := h
  exact ⟨A, n, c, xs, e, h1, h2, h3, by omega⟩
theorem Num.lt (h : Num w v x L) : x < W ^ L := by
  obtain ⟨A, n, c, xs, e, h1, h2, h3, h4⟩ := h
  have := val_lt h2
  rw [h1.len, h3] at this
  exact Nat.lt_of_lt_of_le this (Nat.pow_le_pow_right W_pos h4)
theorem Own.num (h : Own .u64 t B w A n c (dg W x)) (hl : n ≤ L) : Num w (.slice A n c) x L :=
  ⟨A, n, c, dg W x, rfl, h.rd, dg_all W_gt x, dg_val W_gt x, hl⟩
theorem Own.numv (h : Own .u64 t B w A n c xs) (ha : All W xs) (hv : val W xs = x) (hl : n ≤ L) : Num w (.slice A n c) x L :=
  ⟨A, n, c, xs, rfl, h.rd, ha, hv, hl⟩
theorem Rd.num (h : Rd .u64 w A n c xs) (ha : All W xs) (hl : n ≤ L) : Num w (.slice A n c) (val W xs) L := ⟨A, n, c, xs, rfl, h, ha, rfl, hl⟩
theorem Num.nil : Num w (.slice none 0 0) 0 0 := ⟨none, 0, 0, [], rfl, Rd.nil, All.nil, rfl, Nat.le_refl _⟩
theorem Own.alloc {k : IntKind} (h : Own k t B w A n c xs) (o : Obj) : Own k t B (w.alloc o) A n c xs := World.ownsRow.alloc h o
theorem Own.nilx {k : IntKind} (h : xs = []) : Own k t B w none 0 0 xs := by subst h; exact Own.nil
end
/-- a slice literal of words -/
theorem Num.lit {t : TypeId} {b : Nat} (w : World) (zs : List Nat) (hb : b = w.heap.size) (hz : All W zs ∧ zs.length ≤ 1000) : Num (w.alloc (.cells (zs.map (iv .u64)).toArray t)) (.slice (some ⟨b, 0, none⟩) zs.length zs.length) (val W zs) zs.length := by
  subst hb
  exact (Own.lit (k := .u64) (t := t) (B := 0) w zs (by have := hz.2; simp only [maxLen]; omega) (Nat.zero_le _)).rd.num hz.1 (Nat.le_refl _)
theorem dgl {x L : Nat} (h : x < W ^ L) : (dg W x).length ≤ L := dg_len W_gt h
theorem lt_add {x y a b : Nat} (h : x < W ^ a) (h' : y < W ^ b) : x + y < W ^ (max a b + 1) := by
  have h1 : W ^ a ≤ W ^ max a b := Nat.pow_le_pow_right W_pos (by omega)
  have h2 : W ^ b ≤ W ^ max a b := Nat.pow_le_pow_right W_pos (by omega)
  rw [Nat.pow_succ]
  have : W ^ max a b * 2 ≤ W ^ max a b * W := Nat.mul_le_mul_left _ (by decide)
  omega
set_option maxHeartbeats 400000 in
theorem nnorm_any {v : Value} {x L : Nat} {w : World} (h : Num w v x L) (hL : L ≤ 1099511627776) : Calls Tryz.prog 77 #[v] w (GN w x L) := by
  obtain ⟨A, n, c, xs, rfl, h1, h2, h3, h4⟩ := h
  refine (norm_any A n c xs w h1 (by omega)).mono ?_
  rintro e w1 ⟨A1, n1, c1, rfl, ho, hb⟩
  rw [strip_eq_dg W_gt h2, h3] at ho
  refine ⟨A1, n1, c1, rfl, ho, hb, ?_⟩
  rw [← ho.len]
  refine dgl ?_
  rw [← h3]
  refine Nat.lt_of_lt_of_le (val_lt h2) (Nat.pow_le_pow_right W_pos (by rw [h1.len]; exact h4))

set_option maxHeartbeats 400000 in
theorem nown_any {v : Value} {x L : Nat} {w : World} (h : Num w v x L) (hL : L ≤ 1099511627776) : Calls Tryz.prog 127 #[v] w (GN w x L) := by
  obtain ⟨A, n, c, xs, rfl, h1, h2, h3, h4⟩ := h
  refine (own_any A n c xs w h1 (by omega)).mono ?_
  rintro e w1 ⟨A1, n1, c1, rfl, ho, hb⟩
  rw [strip_eq_dg W_gt h2, h3] at ho
  refine ⟨A1, n1, c1, rfl, ho, hb, ?_⟩
  rw [← ho.len]
  refine dgl ?_
  rw [← h3]
  refine Nat.lt_of_lt_of_le (val_lt h2) (Nat.pow_le_pow_right W_pos (by rw [h1.len]; exact h4))

set_option maxHeartbeats 400000 in
theorem trimN_any {v : Value} {x L : Nat} {w : World} (h : Num w v x L) (hL : L ≤ 1099511627776) : Calls Tryz.prog 157 #[v] w (GN w x L) := by
  obtain ⟨A, n, c, xs, rfl, h1, h2, h3, h4⟩ := h
  refine (trim_any A n c xs w h1 (by omega)).mono ?_
  rintro e w1 ⟨A1, n1, c1, rfl, ho, hb⟩
  rw [strip_eq_dg W_gt h2, h3] at ho
  refine ⟨A1, n1, c1, rfl, ho, hb, ?_⟩
  rw [← ho.len]
  refine dgl ?_
  rw [← h3]
  refine Nat.lt_of_lt_of_le (val_lt h2) (Nat.pow_le_pow_right W_pos (by rw [h1.len]; exact h4))

theorem carry_lt {x y n m : Nat} (h : x < W ^ n) (h' : y < W ^ m) : (x + y) / W ^ (max n m) < W := by
  have := lt_add h h'
  rw [Nat.pow_succ] at this
  exact Nat.div_lt_of_lt_mul this

end Go.Proofs.YtamfhmmcnlollaaGreat
