/-
  math/bits.Div64 for all words; limb.DivW, limb.DivOne.
-/
import Derived.Test.YtamfhmmcnlollaaGreatDiv6X
import Derived.Test.YtamfhmmcnlollaaGreatLimbD
import Derived.Test.YtamfhmmcnlollaaGreatRef3C
namespace Go.Proofs.YtamfhmmcnlollaaGreat
open Go.RowKit
set_option linter.unusedVariables false

set_option maxHeartbeats 1000000 in
set_option maxRecDepth 100000 in
theorem div64_zero {l y : Nat} {w : World} (hy : 0 < y) (hl : l < W) (hyW : y < W) :
    Calls Tryz.prog 185 #[.int .u64 0, .int .u64 (l : Int), .int .u64 (y : Int)] w (Keeps (.tuple #[.int .u64 ((l / y : Nat) : Int), .int .u64 ((l % y : Nat) : Int)]) w) := by
  have q1 : ((y : Int) == 0) = false := by rw [beq_eq_false_iff_ne]; omega
  have q3 : ¬ (y : Int) ≤ 0 := by omega
  have k1 : (1 : Int) ≤ (y : Int) := by omega
  have e1 := divNN l y
  have e2 : (l : Int) % (y : Int) = ((l % y : Nat) : Int) := (Int.natCast_emod l y).symm
  have e3 : IntKind.u64.wrap ((l / y : Nat) : Int) = ((l / y : Nat) : Int) := wrapN _ (Nat.lt_of_le_of_lt (Nat.div_le_self _ _) hl)
  have e4 : IntKind.u64.wrap ((l % y : Nat) : Int) = ((l % y : Nat) : Int) := wrapN _ (Nat.lt_trans (Nat.mod_lt _ hy) hyW)
  have e5 : (l : Int).tdiv (y : Int) = ((l / y : Nat) : Int) := by rw [Int.tdiv_eq_ediv_of_nonneg (by omega)]; exact e1
  have e6 : (l : Int).tmod (y : Int) = ((l % y : Nat) : Int) := by rw [Int.tmod_eq_emod_of_nonneg (by omega)]; exact e2
  have hne : ¬ (y : Int) = 0 := by omega
  generalize l / y = q at *
  generalize l % y = r at *
  clear hl hyW
  go_enter Tryz.func185, Tryz.ntmps185
  go_wp2
  refine wp_region_grow none [(true, 0), (true, 1), (true, 2), (true, 3), (true, 4), (true, 5), (true, 6), (true, 7)] (by kernel_rfl) (by kernel_rfl) ?_
  repeat (refine ord_pas (by rfl) (fun K hK => ?_); go_simp; refine hK _ _ (fun w' hw' => (by first | (go_simp; done) | (go_simp; intro hh; cases hh))) ?_; clear hK K)
  refine ord_nil ?_
  go_wp2
  go_ret2
  exact ⟨rfl, below_drewN _ 1⟩

theorem div64_any {h l y : Nat} {h' l' y' : Int} {w : World} (eh : h' = (h : Int)) (el : l' = (l : Int)) (ey : y' = (y : Int)) (hh : h < y) (hl : l < W) (hy : y < W) :
    Calls Tryz.prog 185 #[.int .u64 h', .int .u64 l', .int .u64 y'] w (Keeps (.tuple #[.int .u64 (((h * W + l) / y : Nat) : Int), .int .u64 (((h * W + l) % y : Nat) : Int)]) w) := by
  subst eh el ey
  by_cases h0 : h = 0
  · subst h0
    have := div64_zero (w := w) hh hl hy
    rw [Nat.zero_mul, Nat.zero_add]
    exact this
  · exact (div64_big rfl hy hh hl (by omega)).mono fun e w' ⟨h1, h2⟩ => ⟨h1, by rw [← h2]; exact Below.refl _ _⟩

/-- a new slice and two values beside it -/
def Gives3 (k : IntKind) (t : TypeId) (w : World) (zs : List Nat) (v u : Value) (e : Ending) (w' : World) : Prop :=
  ∃ A n c, e = .returned (.tuple #[.slice A n c, v, u]) ∧ Own k t w.heap.size w' A n c zs ∧ Below w.heap.size w w'

def DivI (xs : List Nat) (n y k r : Nat) (outs : List Nat) : Prop :=
  k ≤ n ∧ r < y ∧ All W outs ∧ outs.length = n ∧ val W (xs.drop k) = val W (outs.drop k) * y + r
theorem val_drop_pred {xs : List Nat} {k : Nat} (h : k < xs.length) : val W (xs.drop k) = nth xs k + W * val W (xs.drop (k + 1)) := by
  rw [List.drop_eq_getElem_cons h, val, nth_lt h]
theorem DivI.step {xs outs : List Nat} {n y k r : Nat} (h : DivI xs n y (k + 1) r outs) (hx : All W xs) (hn : xs.length = n) :
    DivI xs n y k ((r * W + nth xs k) % y) (outs.set k ((r * W + nth xs k) / y)) := by
  obtain ⟨h1, h2, h3, h4, h5⟩ := h
  have hx1 := hx.nth W_pos k
  have hq : (r * W + nth xs k) / y < W := by
    refine Nat.div_lt_of_lt_mul ?_
    have : (r + 1) * W ≤ y * W := Nat.mul_le_mul_right _ h2
    rw [Nat.add_mul] at this
    omega
  refine ⟨by omega, Nat.mod_lt _ (by omega), h3.set hq k, by simpa using h4, ?_⟩
  rw [val_drop_pred (xs := xs) (k := k) (by omega), h5, val_drop_pred (xs := outs.set k _) (k := k) (by rw [List.length_set]; omega)]
  have e1 : (outs.set k ((r * W + nth xs k) / y)).drop (k + 1) = outs.drop (k + 1) := by rw [List.drop_set_of_lt (by omega)]
  have e2 : nth (outs.set k ((r * W + nth xs k) / y)) k = (r * W + nth xs k) / y := by simp [nth, h4, show k < n by omega]
  rw [e1, e2]
  have e3 := Nat.div_add_mod (r * W + nth xs k) y
  generalize (r * W + nth xs k) / y = q at *
  generalize (r * W + nth xs k) % y = r' at *
  generalize val W (outs.drop (k + 1)) = Q at *
  rw [Nat.add_mul, Nat.mul_add, Nat.mul_comm q y, Nat.mul_assoc, Nat.mul_comm W r]
  omega
theorem DivI.done {xs outs : List Nat} {n y r : Nat} (h : DivI xs n y 0 r outs) : outs = wds W n (val W xs / y) ∧ r = val W xs % y := by
  obtain ⟨h1, h2, h3, h4, h5⟩ := h
  simp only [List.drop_zero] at h5
  have e : val W xs / y = val W outs := by
    rw [h5, Nat.mul_comm, Nat.mul_add_div (by omega), Nat.div_eq_of_lt h2, Nat.add_zero]
  refine ⟨eq_wds h3 h4 ?_, ?_⟩
  · rw [e, Nat.mod_eq_of_lt]
    have := val_lt h3
    rwa [h4] at this
  · rw [h5, Nat.mul_comm, Nat.mul_add_mod, Nat.mod_eq_of_lt h2]

set_option maxHeartbeats 1000000 in
theorem divOne_any {A : Option Addr} {n c y : Nat} {y' : Int} {xs : List Nat} {w : World} (h : Rd .u64 w A n c xs) (hx : All W xs) (ey : y' = (y : Int)) (hy0 : 0 < y) (hy : y < W) (hn : n ≤ 1099511627776) :
    Calls Tryz.prog 167 #[.slice A n c, .int .u64 y'] w (Gives3 .u64 41 w (wds W n (val W xs / y)) (.int .u64 ((val W xs % y : Nat) : Int)) (.int .i64 0)) := by
  subst ey
  have q1 : ((y : Int) == 0) = false := by rw [beq_eq_false_iff_ne]; omega
  have H := Lib.hid h
  have HX := Lib.hid hx
  have HY := Lib.hid hy
  have HE := Lib.hid elW
  have HN := Lib.hid hn
  clear h hx hy
  go_enter Tryz.func167, Tryz.ntmps167
  go_wp2_with (at_make; refine wpList_mk rfl (.tmp 13) (.tmp 13) rfl HE.out w.heap.size n rfl rfl rfl rfl HN.out (Nat.le_refl _) ?_; intro w1 ho1 hg1 hb1)
  have HO : Hid (Own .u64 41 w.heap.size w1 (some ⟨w.heap.size, 0, none⟩) n n (List.replicate n 0) ∧ Below w.heap.size w w1) := ⟨ho1, hb1⟩
  clear ho1 hb1 hg1
  go_loopw [8, 9] (fun rv i wr => ∃ (k r : Nat) (outs : List Nat), Hid (DivI xs n y k r outs ∧ Own .u64 41 w.heap.size wr (some ⟨w.heap.size, 0, none⟩) n n outs ∧ Below w.heap.size w wr) ∧ k ≤ n ∧ rv = .int .u64 r ∧ i = .int .i64 ((k : Int) - 1)) (fun _ i _ => (intOf i + 1).toNat)
  case atStart =>
    refine ⟨n, 0, List.replicate n 0, ⟨⟨Nat.le_refl _, hy0, All.replicate W_pos, List.length_replicate, ?_⟩, HO.out.1, HO.out.2⟩, Nat.le_refl _, rfl, rfl⟩
    rw [List.drop_of_length_le (by rw [H.out.len]; exact Nat.le_refl _), List.drop_of_length_le (by simp)]
    simp [val]
  case round =>
    obtain ⟨k, r, outs, hI, hk, rfl, rfl⟩ := hrel
    by_cases hk0 : 0 < k
    · obtain ⟨m, rfl⟩ : ∃ m, k = m + 1 := ⟨k - 1, by omega⟩
      have em : ((m + 1 : Nat) : Int) - 1 = (m : Int) := by omega
      rw [em]
      obtain ⟨b, off, e, hb, hca⟩ := (H.out.below hI.out.2.2).at (i := m) (by omega)
      subst e
      have c1 := Lib.hid (div64_any (w := wr) (h := r) (l := nth xs m) (y := y) rfl rfl rfl hI.out.1.2.1 (HX.out.nth W_pos m) HY.out)
      clear em
      go_wp2_with fail
      refine c1.out.mono ?_
      rintro e w2 ⟨rfl, hb2⟩
      have hO2 := Lib.hid (hI.out.2.1.below hb2)
      have hcell := hO2.out.cell (i := m) (by omega)
      have hfr := hO2.out.frozen (i := m)
      have hB2 := Lib.hid (bt hI.out.2.2 hb2)
      clear hb2
      go_wp2
      go_roundw
      case rel => exact ⟨m, _, _, ⟨hI.out.1.step HX.out H.out.len, hO2.out.stored, hB2.out.setCell (Nat.le_refl _) _⟩, by omega, rfl, rfl⟩
      case measure => simp [intOf]
    · obtain rfl : k = 0 := by omega
      go_wp2
      go_ret3
      obtain ⟨e1, e2⟩ := hI.out.1.done
      refine ⟨_, _, _, ?_, by rw [← e1]; exact hI.out.2.1, hI.out.2.2⟩
      rw [← e2]
      rfl
end Go.Proofs.YtamfhmmcnlollaaGreat
