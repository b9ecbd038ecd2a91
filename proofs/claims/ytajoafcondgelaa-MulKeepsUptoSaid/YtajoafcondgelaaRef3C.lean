/-
  The reference of layer 3: Same (three of one text), Norm, times, plus, Mul, Of, MulAdd.
-/
import Derived.Test.YtajoafcondgelaaRef3X
namespace Go.Proofs.Ytajoafcondgelaa
open Go.RowKit
set_option linter.unusedVariables false

theorem eq_of_nth {xs ys : List Nat} (hl : xs.length = ys.length) (h : ∀ i, i < xs.length → nth xs i = nth ys i) : xs = ys := by
  refine List.ext_getElem hl fun i h1 h2 => ?_
  have := h i h1
  rwa [nth_lt h1, nth_lt h2] at this
/-- it answers v, and only draws -/
def Quiet (v : Value) (w : World) (e : Ending) (w' : World) : Prop := e = .returned v ∧ ∃ n, w' = w.drewN n
theorem below_drewN (w : World) (n : Nat) : Below w.heap.size w (w.drewN n) := ⟨rfl, rfl, rfl, Nat.le_refl _, fun _ _ => rfl⟩

set_option maxHeartbeats 1000000 in
theorem same3_any {A A2 : Option Addr} {n c m c2 : Nat} {xs ys : List Nat} {w : World} (h : Rd .u64 w A n c xs) (h' : Rd .u64 w A2 m c2 ys) (hn : n ≤ 1099511627776) :
    Calls Try.prog 9 #[.slice A n c, .slice A2 m c2] w (Quiet (.bool (decide (xs = ys))) w) := by
  have H := Lib.hid h
  have H' := Lib.hid h'
  clear h h'
  by_cases hnm : n = m
  · subst hnm
    have q1 : ((n : Int) != (n : Int)) = false := by simp
    go_enter Try.func9, Try.ntmps9
    go_wp2
    go_loopw [5] (fun i wr => ∃ (k q : Nat), Hid ((∀ j, j < k → nth xs j = nth ys j) ∧ wr = w.drewN q) ∧ k ≤ n ∧ i = .int .i64 k) (fun i _ => n - (intOf i).toNat)
    case atStart => exact ⟨0, 0, ⟨fun j hj => by omega, rfl⟩, Nat.zero_le _, rfl⟩
    case round =>
      obtain ⟨k, q, hI, hk, rfl⟩ := hrel
      obtain ⟨hE, hw⟩ := hI.out
      have HE := Lib.hid hE
      have HW := Lib.hid hw
      have R1 : Hid (Rd .u64 wr A n c xs) := by rw [hw]; exact H.out.drewN q
      have R2 : Hid (Rd .u64 wr A2 n c2 ys) := by rw [hw]; exact H'.out.drewN q
      clear hE hI hw
      by_cases hlt : k < n
      · obtain ⟨b, off, ea, hb, hca⟩ := R1.out.at hlt
        obtain ⟨b2, off2, ea2, hb2, hcb⟩ := R2.out.at hlt
        subst ea ea2
        have i1 : (0 : Int) ≤ (k : Int) := by omega
        have i2 : (k : Int) < (n : Int) := by omega
        have hca' : ∀ w', Grow none wr.drew w' → w'.cell? ⟨b, off + k, none⟩ = some (.int .u64 ((nth xs k : Nat) : Int)) := fun w' h => h.cell hca (by simp)
        have hcb' : ∀ w', Grow none wr.drew w' → w'.cell? ⟨b2, off2 + k, none⟩ = some (.int .u64 ((nth ys k : Nat) : Int)) := fun w' h => h.cell hcb (by simp)
        by_cases hne : nth xs k = nth ys k
        · have hq : (((nth xs k : Nat) : Int) != ((nth ys k : Nat) : Int)) = false := by simp; omega
          have HN := Lib.hid hne
          clear hne
          go_wp2
          refine wp_region_grow none [(true, 0), (true, 1), (true, 2), (true, 3), (true, 4), (true, 5), (true, 6), (true, 7), (true, 8)] (by kernel_rfl) (by kernel_rfl) ?_
          repeat (refine ord_pas (by rfl) (fun K hK => ?_); go_simp; refine hK _ _ (fun w' hw' => (by first | (go_simp; done) | (go_simp; intro hh; cases hh))) ?_; clear hK K)
          refine ord_nil ?_
          clear hca' hcb'
          go_wp2
          go_roundw
          case rel =>
            refine ⟨k + 1, q + 1, ⟨fun j hj => ?_, by rw [HW.out]; rfl⟩, by omega, by go_num⟩
            by_cases hjk : j = k
            · subst hjk; exact HN.out
            · exact HE.out j (by omega)
          case measure => simp [intOf]; omega
        · have hq : (((nth xs k : Nat) : Int) != ((nth ys k : Nat) : Int)) = true := by simp; omega
          have HN := Lib.hid hne
          clear hne
          go_wp2
          refine wp_region_grow none [(true, 0), (true, 1), (true, 2), (true, 3), (true, 4), (true, 5), (true, 6), (true, 7), (true, 8)] (by kernel_rfl) (by kernel_rfl) ?_
          repeat (refine ord_pas (by rfl) (fun K hK => ?_); go_simp; refine hK _ _ (fun w' hw' => (by first | (go_simp; done) | (go_simp; intro hh; cases hh))) ?_; clear hK K)
          refine ord_nil ?_
          clear hca' hcb'
          go_wp2
          go_ret
          refine ⟨?_, q + 1, by rw [HW.out]; rfl⟩
          have : xs ≠ ys := fun e => HN.out (by rw [e])
          simp [this]
      · obtain rfl : k = n := by omega
        go_wp2
        go_ret
        refine ⟨?_, q, HW.out⟩
        have : xs = ys := eq_of_nth (by rw [H.out.len, H'.out.len]) (fun i hi => HE.out i (by rw [H.out.len] at hi; exact hi))
        simp [this]
  · have q1 : ((n : Int) != (m : Int)) = true := by simp; omega
    have HM := Lib.hid hnm
    clear hnm
    go_enter Try.func9, Try.ntmps9
    go_wp2
    go_ret
    refine ⟨?_, 0, rfl⟩
    have : xs ≠ ys := fun e => HM.out (by rw [← H.out.len, ← H'.out.len, e])
    simp [this]

theorem dg_all62 (x : Nat) : All 4611686018427387904 (dg D x) := fun y hy => Nat.lt_trans (dg_all D_gt x y hy) (by decide)
theorem dgD_len {x L : Nat} (h : x < W ^ L) : (dg D x).length ≤ 4 * L := by
  refine dg_len D_gt ?_
  rw [Nat.pow_mul, ← W_D]
  exact h

set_option maxHeartbeats 400000 in
theorem norm3_any {v : Value} {x L : Nat} {w : World} (h : Num w v x L) (hL : L ≤ 34359738368) : Calls Try.prog 16 #[v] w (GN w x L) := by
  have H := Lib.hid h
  have HB := Lib.hid (dgl h.lt)
  have HD := Lib.hid (dgD_len h.lt)
  clear h
  go_enter Try.func16, Try.ntmps16
  go_wp2_with fail
  refine (digits3_any H.out (by omega)).mono ?_
  rintro e w1 ⟨A_d, n_d, c_d, rfl, o_d, hb1⟩
  go_wp2_with fail
  refine (number3_any o_d.rd (dg_all62 x) (by have := HD.out; have := o_d.len; omega)).mono ?_
  rintro e w2 ⟨A_r, n_r, c_r, rfl, o_r, hb2, l_r⟩
  go_wp2
  go_ret
  rw [dg_val D_gt] at o_r
  exact ⟨_, _, _, rfl, (o_r.mono hb1.size), (bt hb1 hb2), by rw [← o_r.len]; exact HB.out⟩

/-- it answers v, and leaves what there was -/
def Keeps (v : Value) (w : World) (e : Ending) (w' : World) : Prop := e = .returned v ∧ Below w.heap.size w w'
theorem same3_yes {A A2 : Option Addr} {n c m c2 : Nat} {xs ys : List Nat} {w : World} (h : Rd .u64 w A n c xs) (h' : Rd .u64 w A2 m c2 ys) (e : xs = ys) (hn : n ≤ 1099511627776) :
    Calls Try.prog 9 #[.slice A n c, .slice A2 m c2] w (Keeps (.bool true) w) :=
  (same3_any h h' hn).mono fun _ _ ⟨he, q, hq⟩ => ⟨by rw [he, e]; simp, by rw [hq]; exact below_drewN _ _⟩
end Go.Proofs.Ytajoafcondgelaa
