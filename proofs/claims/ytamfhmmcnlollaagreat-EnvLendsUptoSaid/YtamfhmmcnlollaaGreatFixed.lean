/-
  limb.Bits; surdref01.Same; surdlaw01.fixed.
-/
import Derived.Test.YtamfhmmcnlollaaGreatRef1D
import Derived.Test.YtamfhmmcnlollaaGreatBitsB
import Derived.Test.YtamfhmmcnlollaaGreatDivOne
namespace Go.Proofs.YtamfhmmcnlollaaGreat
open Go.RowKit
set_option linter.unusedVariables false

set_option maxHeartbeats 1000000 in
theorem same1_any {A A2 : Option Addr} {n c m c2 : Nat} {xs ys : List Nat} {w : World} (h : Rd .u64 w A n c xs) (h' : Rd .u64 w A2 m c2 ys) (hn : n ≤ 1099511627776) :
    Calls Tryz.prog 59 #[.slice A n c, .slice A2 m c2] w (Quiet (.bool (decide (xs = ys))) w) := by
  have H := Lib.hid h
  have H' := Lib.hid h'
  clear h h'
  by_cases hnm : n = m
  · subst hnm
    have q1 : ((n : Int) != (n : Int)) = false := by simp
    go_enter Tryz.func59, Tryz.ntmps59
    go_wp2
    go_loopw [5] (fun i wr => ∃ (k q : Nat), Hid ((∀ j, j < k → nth xs j = nth ys j) ∧ wr = w.drewN q) ∧ k ≤ n ∧ i = .int .i64 k) (fun i _ => n - (intOf i).toNat)
    case atStart => exact ⟨0, 0, ⟨fun j hj => by omega, rfl⟩, Nat.zero_le _, rfl⟩
    case round =>
      obtain ⟨k, q, hI, hk, rfl⟩ := hrel
      obtain ⟨hE, hw⟩ := hI.out
      have HE := Lib.hid hE
      have HW := Lib.hid hw
      have R1 : Hid (Rd .u64 wr A n c xs) := by rw [hw]; exact H.out.drewN q
      have R2 : Hid (Rd .u64 wr A2 n c2 ys) := by rw [hw]; exact H'.out.drewN q
      clear hE hI hw
      by_cases hlt : k < n
      · obtain ⟨b, off, ea, hb, hca⟩ := R1.out.at hlt
        obtain ⟨b2, off2, ea2, hb2, hcb⟩ := R2.out.at hlt
        subst ea ea2
        have i1 : (0 : Int) ≤ (k : Int) := by omega
        have i2 : (k : Int) < (n : Int) := by omega
        have hca' : ∀ w', Grow none wr.drew w' → w'.cell? ⟨b, off + k, none⟩ = some (.int .u64 ((nth xs k : Nat) : Int)) := fun w' h => h.cell hca (by simp)
        have hcb' : ∀ w', Grow none wr.drew w' → w'.cell? ⟨b2, off2 + k, none⟩ = some (.int .u64 ((nth ys k : Nat) : Int)) := fun w' h => h.cell hcb (by simp)
        by_cases hne : nth xs k = nth ys k
        · have hq : (((nth xs k : Nat) : Int) != ((nth ys k : Nat) : Int)) = false := by simp; omega
          have HN := Lib.hid hne
          clear hne
          go_wp2
          refine wp_region_grow none [(true, 0), (true, 1), (true, 2), (true, 3), (true, 4), (true, 5), (true, 6), (true, 7), (true, 8)] (by kernel_rfl) (by kernel_rfl) ?_
          repeat (refine ord_pas (by rfl) (fun K hK => ?_); go_simp; refine hK _ _ (fun w' hw' => (by first | (go_simp; done) | (go_simp; intro hh; cases hh))) ?_; clear hK K)
          refine ord_nil ?_
          clear hca' hcb'
          go_wp2
          go_roundw
          case rel =>
            refine ⟨k + 1, q + 1, ⟨fun j hj => ?_, by rw [HW.out]; rfl⟩, by omega, by go_num⟩
            by_cases hjk : j = k
            · subst hjk; exact HN.out
            · exact HE.out j (by omega)
          case measure => simp [intOf]; omega
        · have hq : (((nth xs k : Nat) : Int) != ((nth ys k : Nat) : Int)) = true := by simp; omega
          have HN := Lib.hid hne
          clear hne
          go_wp2
          refine wp_region_grow none [(true, 0), (true, 1), (true, 2), (true, 3), (true, 4), (true, 5), (true, 6), (true, 7), (true, 8)] (by kernel_rfl) (by kernel_rfl) ?_
          repeat (refine ord_pas (by rfl) (fun K hK => ?_); go_simp; refine hK _ _ (fun w' hw' => (by first | (go_simp; done) | (go_simp; intro hh; cases hh))) ?_; clear hK K)
          refine ord_nil ?_
          clear hca' hcb'
          go_wp2
          go_ret
          refine ⟨?_, q + 1, by rw [HW.out]; rfl⟩
          have : xs ≠ ys := fun e => HN.out (by rw [e])
          simp [this]
      · obtain rfl : k = n := by omega
        go_wp2
        go_ret
        refine ⟨?_, q, HW.out⟩
        have : xs = ys := eq_of_nth (by rw [H.out.len, H'.out.len]) (fun i hi => HE.out i (by rw [H.out.len] at hi; exact hi))
        simp [this]
  · have q1 : ((n : Int) != (m : Int)) = true := by simp; omega
    have HM := Lib.hid hnm
    clear hnm
    go_enter Tryz.func59, Tryz.ntmps59
    go_wp2
    go_ret
    refine ⟨?_, 0, rfl⟩
    have : xs ≠ ys := fun e => HM.out (by rw [← H.out.len, ← H'.out.len, e])
    simp [this]

/-- the bits of a number in words -/
def nbits (xs : List Nat) : Nat := if (strip xs).length = 0 then 0 else ((strip xs).length - 1) * 64 + blen (nth xs ((strip xs).length - 1))
set_option maxHeartbeats 400000 in
theorem lbits_any {A : Option Addr} {n c : Nat} {xs : List Nat} {w : World} (h : Rd .u64 w A n c xs) (hx : All W xs) (hn : n ≤ 17179869184) :
    Calls Tryz.prog 144 #[.slice A n c] w (fun e w' => e = .returned (.int .i64 ((nbits xs : Nat) : Int)) ∧ w = w') := by
  have c1 := Lib.hid (top_any A n c xs w h (by omega))
  have hl : (strip xs).length ≤ n := by have := strip_length_le xs; rw [h.len] at this; exact this
  obtain ⟨t, ht⟩ : ∃ t, t = (strip xs).length := ⟨_, rfl⟩
  have HT : Hid (nbits xs = if t = 0 then 0 else (t - 1) * 64 + blen (nth xs (t - 1))) := by show _ = _; rw [nbits, ht]
  rw [← ht] at c1 hl
  by_cases h0 : t = 0
  · subst h0
    have HT2 : Hid (nbits xs = 0) := HT.out.trans (if_pos rfl)
    clear ht h
    go_enter Tryz.func144, Tryz.ntmps144
    go_wp2_with fail
    refine c1.out.mono ?_
    rintro e w' ⟨rfl, rfl⟩
    go_wp2
    go_ret
    rw [HT2.out]
    exact ⟨rfl, rfl⟩
  · obtain ⟨p, rfl⟩ : ∃ p, t = p + 1 := ⟨t - 1, by omega⟩
    have HT2 : Hid (nbits xs = p * 64 + blen (nth xs p)) := by show _ = _; rw [HT.out, if_neg (by omega)]; rfl
    obtain ⟨b, off, ea, hb, hca⟩ := h.at (i := p) (by omega)
    subst ea
    have hxp := hx.nth W_pos p
    have c2 := Lib.hid (len64_any (w := w) (x := nth xs p) rfl hxp)
    have hbl : blen (nth xs p) ≤ 64 := blen_le hxp
    generalize nth xs p = u at *
    generalize blen u = v at *
    have q1 : (((p : Int) + 1) == 0) = false := by rw [beq_eq_false_iff_ne]; omega
    clear ht h HT hxp h0
    go_enter Tryz.func144, Tryz.ntmps144
    go_wp2_with fail
    refine c1.out.mono ?_
    rintro e w' ⟨rfl, rfl⟩
    go_wp2_with fail
    refine c2.out.mono ?_
    rintro e w' ⟨rfl, rfl⟩
    go_wp2
    go_ret
    rw [HT2.out]
    exact ⟨ret_int (by omega), rfl⟩

theorem belowA (w : World) (o : Obj) : Below w.heap.size w (w.alloc o) := (Below.refl _ _).alloc (Nat.le_refl _) o
end Go.Proofs.YtamfhmmcnlollaaGreat
