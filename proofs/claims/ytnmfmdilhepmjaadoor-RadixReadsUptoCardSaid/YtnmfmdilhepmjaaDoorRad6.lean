/-
  The document's texts (surdref06): value, FromDigits.
-/
import Derived.Test.YtnmfmdilhepmjaaDoorRadF
import Derived.Test.YtnmfmdilhepmjaaDoorRef5
namespace Go.Proofs.YtnmfmdilhepmjaaDoor
open Go.RowKit
set_option linter.unusedVariables false

set_option maxHeartbeats 1000000 in
theorem value6_any {b c : Nat} {b' : Int} {w : World} (eb : b' = (b : Int)) (hb36 : b ≤ 36) (hc : c < 256) :
    Calls Tryd.prog 59 #[.int .u8 (c : Int), .int .i64 b'] w fun e w' => e = .returned (.int .i64 (dgI b c)) ∧ w = w' := by
  subst eb
  by_cases h1 : 48 ≤ c ∧ c ≤ 57
  · obtain ⟨g1, g2⟩ := h1
    have d1 : decide ((48 : Int) ≤ (c : Int)) = true := by simp; omega
    have d2 : decide ((c : Int) ≤ 57) = true := by simp; omega
    have d3 : decide ((97 : Int) ≤ (c : Int)) = false := by simp; omega
    have HD : Hid (dgv c = c - 48) := by show _ = _; unfold dgv; rw [if_pos ⟨g1, g2⟩]
    by_cases h2 : c - 48 < b
    · have d4 : decide ((b : Int) ≤ (c : Int) - 48) = false := by simp; omega
      have HR : Hid (dgI b c = (c : Int) - 48) := by show _ = _; rw [dgI, HD.out, if_pos h2]; omega
      go_enter Tryd.func59, Tryd.ntmps59
      go_wp2
      go_ret
      exact ⟨by rw [HR.out]; rfl, rfl⟩
    · have d4 : decide ((b : Int) ≤ (c : Int) - 48) = true := by simp; omega
      have HR : Hid (dgI b c = -1) := by show _ = _; rw [dgI, HD.out, if_neg h2]
      go_enter Tryd.func59, Tryd.ntmps59
      go_wp2
      go_ret
      exact ⟨by rw [HR.out]; rfl, rfl⟩
  · by_cases h3 : 97 ≤ c ∧ c ≤ 122
    · obtain ⟨g1, g2⟩ := h3
      have d1 : decide ((48 : Int) ≤ (c : Int)) = true := by simp; omega
      have d2 : decide ((c : Int) ≤ 57) = false := by simp; omega
      have d3 : decide ((97 : Int) ≤ (c : Int)) = true := by simp; omega
      have d3b : decide ((c : Int) ≤ 122) = true := by simp; omega
      have HD : Hid (dgv c = c - 87) := by show _ = _; unfold dgv; rw [if_neg h1, if_pos ⟨g1, g2⟩]
      by_cases h2 : c - 87 < b
      · have d4 : decide ((b : Int) ≤ (c : Int) - 97 + 10) = false := by simp; omega
        have HR : Hid (dgI b c = (c : Int) - 97 + 10) := by show _ = _; rw [dgI, HD.out, if_pos h2]; omega
        clear h1
        go_enter Tryd.func59, Tryd.ntmps59
        go_wp2
        go_ret
        exact ⟨by rw [HR.out]; rfl, rfl⟩
      · have d4 : decide ((b : Int) ≤ (c : Int) - 97 + 10) = true := by simp; omega
        have HR : Hid (dgI b c = -1) := by show _ = _; rw [dgI, HD.out, if_neg h2]
        clear h1
        go_enter Tryd.func59, Tryd.ntmps59
        go_wp2
        go_ret
        exact ⟨by rw [HR.out]; rfl, rfl⟩
    · have HR : Hid (dgI b c = -1) := by show _ = _; rw [dgI, if_neg]; unfold dgv; rw [if_neg h1, if_neg h3]; omega
      have d4 : decide ((b : Int) ≤ -1) = false := by simp; omega
      by_cases g1 : 48 ≤ c
      · have d1 : decide ((48 : Int) ≤ (c : Int)) = true := by simp; omega
        have d2 : decide ((c : Int) ≤ 57) = false := by simp; omega
        by_cases g2 : 97 ≤ c
        · have d3 : decide ((97 : Int) ≤ (c : Int)) = true := by simp; omega
          have d3b : decide ((c : Int) ≤ 122) = false := by simp; omega
          clear h1 h3
          go_enter Tryd.func59, Tryd.ntmps59
          go_wp2
          go_ret
          exact ⟨by rw [HR.out]; rfl, rfl⟩
        · have d3 : decide ((97 : Int) ≤ (c : Int)) = false := by simp; omega
          clear h1 h3
          go_enter Tryd.func59, Tryd.ntmps59
          go_wp2
          go_ret
          exact ⟨by rw [HR.out]; rfl, rfl⟩
      · have d1 : decide ((48 : Int) ≤ (c : Int)) = false := by simp; omega
        have d3 : decide ((97 : Int) ≤ (c : Int)) = false := by simp; omega
        clear h1 h3
        go_enter Tryd.func59, Tryd.ntmps59
        go_wp2
        go_ret
        exact ⟨by rw [HR.out]; rfl, rfl⟩
theorem val_drop_step {b : Nat} {xs : List Nat} {k : Nat} (h : k < xs.length) : val b (xs.drop k) = val b (xs.drop (k + 1)) * b + nth xs k := by
  rw [List.drop_eq_getElem_cons h, val, nth_lt h, Nat.mul_comm]
  omega
set_option maxHeartbeats 2000000 in
theorem fromDigits6_any {A : Option Addr} {n c b : Nat} {b' : Int} {zs : List Int} {w : World} (h : Rdz w A n c zs) (hok : okDigs zs b) (eb : b' = (b : Int)) (hb : 2 ≤ b) (hb36 : b ≤ 36) (hn : n ≤ 1073741824) :
    Calls Tryd.prog 31 #[.slice A n c, .int .i64 b'] w (GNE w (val b (toN zs)) (n + 1) 0) := by
  subst eb
  have H := Lib.hid h
  have HK := Lib.hid hok
  have HA := Lib.hid (okDigs_all hok)
  have hln := h.1.1
  have d1 : decide ((b : Int) < 2) = false := by simp; omega
  have d2 : decide ((36 : Int) < (b : Int)) = false := by simp; omega
  clear h hok
  go_enter Tryd.func31, Tryd.ntmps31
  go_wp2
  go_loop [6] (fun iv => ∃ k : Nat, k ≤ n ∧ iv = .int .i64 (k : Int)) (fun iv => n - (intOf iv).toNat)
  case atStart => exact ⟨0, Nat.zero_le _, rfl⟩
  case round =>
    obtain ⟨k, hk, rfl⟩ := hrel
    by_cases hlt : k < n
    · obtain ⟨bb, off, ea, hbb, hca⟩ := H.out.2 (by omega)
      subst ea
      have hcb := hca k hlt
      clear hca
      have i1 : (0 : Int) ≤ (k : Int) := by omega
      have i2 : (k : Int) < (n : Int) := by omega
      obtain ⟨z1, z2⟩ := HK.out k (by omega)
      have q1 : decide (zth zs k < 0) = false := by simp; omega
      have q2 : decide ((b : Int) ≤ zth zs k) = false := by simp; omega
      generalize zth zs k = z at *
      go_wp2
      go_round
      case rel => exact ⟨k + 1, by omega, by go_num⟩
      case measure => simp [intOf]; omega
    · obtain rfl : k = n := by omega
      have CW := Lib.hid (word5_any (w := w) (x := b) (x' := (b : Int)) rfl (by omega))
      go_wp2_with fail
      refine CW.out.mono ?_
      rintro e w1 ⟨A1, n1, c1, rfl, ho1, hb1, hl1⟩
      have HB := Lib.hid (And.intro ho1 hb1)
      clear ho1 hb1
      go_wp2
      go_loopw [7, 9] (fun nv iv wr => ∃ (j : Nat) (B : Option Addr) (m e : Nat), Hid (Own .u64 25 w.heap.size wr B m e (dg W (val b ((toN zs).drop j))) ∧ Below w1.heap.size w1 wr) ∧ j ≤ k ∧ nv = .slice B m e ∧ iv = .int .i64 ((j : Int) - 1)) (fun _ iv _ => (intOf iv + 1).toNat)
      case atStart =>
        refine ⟨k, none, 0, 0, ⟨?_, Below.refl _ _⟩, Nat.le_refl _, rfl, by go_num⟩
        rw [List.drop_of_length_le (by simp [toN, hln])]
        show Own _ _ _ _ _ _ _ (dg W 0)
        rw [dg_zero W_gt]
        exact Own.nil
      case round =>
        obtain ⟨j, B, m, e, hI, hj, rfl, rfl⟩ := hrel
        have hm : m ≤ k - j := by
          rw [← hI.out.1.len]
          have h1 := val_lt (HA.out.drop j)
          rw [List.length_drop, show (toN zs).length = k by simp [toN, hln]] at h1
          exact dg_len W_gt (Nat.lt_of_lt_of_le h1 (Nat.pow_le_pow_left (by rw [W_eq]; omega) _))
        by_cases h0 : j = 0
        · subst h0
          have HF := hI.out
          rw [List.drop_zero] at HF
          have HF2 : Hid (Own .u64 25 w.heap.size wr B m e (dg W (val b (toN zs))) ∧ Below w.heap.size w wr) := ⟨HF.1, bt HB.out.2 HF.2⟩
          clear hI HF
          go_wp2
          go_ret2
          exact ⟨_, _, _, rfl, HF2.out.1, HF2.out.2, by omega⟩
        · obtain ⟨i, rfl⟩ : ∃ i, j = i + 1 := ⟨j - 1, by omega⟩
          obtain ⟨bb, off, ea, hbb, hca⟩ := ((H.out.below HB.out.2).below hI.out.2).2 (by omega)
          subst ea
          have hcb := hca i (by omega)
          clear hca
          obtain ⟨z1, z2⟩ := HK.out i (by omega)
          obtain ⟨d, hd⟩ : ∃ d : Nat, zth zs i = (d : Int) := ⟨(zth zs i).toNat, by omega⟩
          have HV : Hid (val b ((toN zs).drop (i + 1)) * b + d = val b ((toN zs).drop i)) := by
            show _ = _
            rw [val_drop_step (k := i) (by simp [toN, hln]; omega), nth_toN (by omega), hd]
            simp
          rw [hd] at hcb z2
          have hd36 : d < 36 := by omega
          have i1 : (0 : Int) ≤ (i : Int) := by omega
          have i2 : (i : Int) < (k : Int) := by omega
          have hg : ∀ w', Grow none wr.drew w' → w'.cell? ⟨bb, off + i, none⟩ = some (.int .i64 (d : Int)) := fun w' h => h.cell hcb (by simp)
          clear z1 z2 hd
          go_wp2_with fail
          refine wp_region_grow none [(true, 0), (true, 1), (true, 3), (true, 4), (true, 5), (true, 6), (false, 2), (false, 7), (false, 8), (true, 9)] (by kernel_rfl) (by kernel_rfl) ?_
          repeat (refine ord_pas (by rfl) (fun K hK => ?_); go_simp; refine hK _ _ (fun w' hw' => (by first | (go_simp; done) | (go_simp; intro hh; cases hh))) ?_; clear hK K)
          (refine ord_call (by rfl) (fun K hK => ?_); go_simp; refine hK _ _ ?_; clear hK K)
          refine (times5_any ((hI.out.1.num hm).below (below_drewN _ 1)) (((HB.out.1.num hl1).below hI.out.2).below (below_drewN _ 1)) (by omega) (by omega)).mono ?_
          rintro e w1 ⟨A_t, n_t, c_t, rfl, o_t, hb1, l_t⟩
          refine ⟨_, rfl, Grow.of_below hb1, ?_⟩
          (refine ord_norm (fun K hK => ?_); go_simp; refine hK _ ?_; clear hK K)
          (refine ord_call (by rfl) (fun K hK => ?_); go_simp; refine hK _ _ ?_; clear hK K)
          refine (word5_any (x := d) rfl (by omega)).mono ?_
          rintro e w2 ⟨A_q, n_q, c_q, rfl, o_q, hb2, l_q⟩
          refine ⟨_, rfl, Grow.of_below hb2, ?_⟩
          (refine ord_norm (fun K hK => ?_); go_simp; refine hK _ ?_; clear hK K)
          (refine ord_call (by rfl) (fun K hK => ?_); go_simp; refine hK _ _ ?_; clear hK K)
          refine (plus5_any ((o_t.num l_t).below hb2) (o_q.num l_q) (by omega) (by omega)).mono ?_
          rintro e w3 ⟨A_s, n_s, c_s, rfl, o_s, hb3, l_s⟩
          refine ⟨_, rfl, Grow.of_below hb3, ?_⟩
          (refine ord_norm (fun K hK => ?_); go_simp; refine hK _ ?_; clear hK K)
          repeat (refine ord_pas (by rfl) (fun K hK => ?_); go_simp; refine hK _ _ (fun w' hw' => (by first | (go_simp; done) | (go_simp; intro hh; cases hh))) ?_; clear hK K)
          refine ord_nil ?_
          rw [HV.out] at o_s
          have HN := Lib.hid (And.intro (o_s.mono (bt (bt (below_drewN _ 1) hb1) hb2).size) (bt (bt (bt (below_drewN _ 1) hb1) hb2) hb3))
          clear hg o_s
          go_wp2
          go_roundw
          case rel => exact ⟨i, _, _, _, ⟨HN.out.1.mono (Nat.le_trans HB.out.2.size hI.out.2.size), bt hI.out.2 HN.out.2⟩, by omega, rfl, by go_num⟩
          case measure => simp [intOf]
end Go.Proofs.YtnmfmdilhepmjaaDoor
