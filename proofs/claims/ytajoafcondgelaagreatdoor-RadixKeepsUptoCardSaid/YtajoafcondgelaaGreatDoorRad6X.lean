/-
  The document's texts (surdref06): value, FromDigits. The document's texts (surdref06): letter, Digits, FormatBase, Format. The document's texts (surdref06): FormatBase, Format; Ten; surdref05.Pow; radix.Length, Ten. RadixTens.
-/
import Derived.Test.YtajoafcondgelaaGreatDoorRadG
import Derived.Test.YtajoafcondgelaaGreatDoorRef5X
import Derived.Test.YtajoafcondgelaaGreatDoorPowX
import Derived.Maps.AppendAt
namespace Go.Proofs.YtajoafcondgelaaGreatDoor
open Go.RowKit
set_option linter.unusedVariables false

set_option maxHeartbeats 1000000 in
theorem value6_any {b c : Nat} {b' : Int} {w : World} (eb : b' = (b : Int)) (hb36 : b ≤ 36) (hc : c < 256) :
    Calls Tryz.prog 68 #[.int .u8 (c : Int), .int .i64 b'] w fun e w' => e = .returned (.int .i64 (dgI b c)) ∧ w = w' := by
  subst eb
  by_cases h1 : 48 ≤ c ∧ c ≤ 57
  · obtain ⟨g1, g2⟩ := h1
    have d1 : decide ((48 : Int) ≤ (c : Int)) = true := by simp; omega
    have d2 : decide ((c : Int) ≤ 57) = true := by simp; omega
    have d3 : decide ((97 : Int) ≤ (c : Int)) = false := by simp; omega
    have HD : Hid (dgv c = c - 48) := by show _ = _; unfold dgv; rw [if_pos ⟨g1, g2⟩]
    by_cases h2 : c - 48 < b
    · have d4 : decide ((b : Int) ≤ (c : Int) - 48) = false := by simp; omega
      have HR : Hid (dgI b c = (c : Int) - 48) := by show _ = _; rw [dgI, HD.out, if_pos h2]; omega
      go_enter Tryz.func68, Tryz.ntmps68
      go_wp2
      go_ret
      exact ⟨by rw [HR.out]; rfl, rfl⟩
    · have d4 : decide ((b : Int) ≤ (c : Int) - 48) = true := by simp; omega
      have HR : Hid (dgI b c = -1) := by show _ = _; rw [dgI, HD.out, if_neg h2]
      go_enter Tryz.func68, Tryz.ntmps68
      go_wp2
      go_ret
      exact ⟨by rw [HR.out]; rfl, rfl⟩
  · by_cases h3 : 97 ≤ c ∧ c ≤ 122
    · obtain ⟨g1, g2⟩ := h3
      have d1 : decide ((48 : Int) ≤ (c : Int)) = true := by simp; omega
      have d2 : decide ((c : Int) ≤ 57) = false := by simp; omega
      have d3 : decide ((97 : Int) ≤ (c : Int)) = true := by simp; omega
      have d3b : decide ((c : Int) ≤ 122) = true := by simp; omega
      have HD : Hid (dgv c = c - 87) := by show _ = _; unfold dgv; rw [if_neg h1, if_pos ⟨g1, g2⟩]
      by_cases h2 : c - 87 < b
      · have d4 : decide ((b : Int) ≤ (c : Int) - 97 + 10) = false := by simp; omega
        have HR : Hid (dgI b c = (c : Int) - 97 + 10) := by show _ = _; rw [dgI, HD.out, if_pos h2]; omega
        clear h1
        go_enter Tryz.func68, Tryz.ntmps68
        go_wp2
        go_ret
        exact ⟨by rw [HR.out]; rfl, rfl⟩
      · have d4 : decide ((b : Int) ≤ (c : Int) - 97 + 10) = true := by simp; omega
        have HR : Hid (dgI b c = -1) := by show _ = _; rw [dgI, HD.out, if_neg h2]
        clear h1
        go_enter Tryz.func68, Tryz.ntmps68
        go_wp2
        go_ret
        exact ⟨by rw [HR.out]; rfl, rfl⟩
    · have HR : Hid (dgI b c = -1) := by show _ = _; rw [dgI, if_neg]; unfold dgv; rw [if_neg h1, if_neg h3]; omega
      have d4 : decide ((b : Int) ≤ -1) = false := by simp; omega
      by_cases g1 : 48 ≤ c
      · have d1 : decide ((48 : Int) ≤ (c : Int)) = true := by simp; omega
        have d2 : decide ((c : Int) ≤ 57) = false := by simp; omega
        by_cases g2 : 97 ≤ c
        · have d3 : decide ((97 : Int) ≤ (c : Int)) = true := by simp; omega
          have d3b : decide ((c : Int) ≤ 122) = false := by simp; omega
          clear h1 h3
          go_enter Tryz.func68, Tryz.ntmps68
          go_wp2
          go_ret
          exact ⟨by rw [HR.out]; rfl, rfl⟩
        · have d3 : decide ((97 : Int) ≤ (c : Int)) = false := by simp; omega
          clear h1 h3
          go_enter Tryz.func68, Tryz.ntmps68
          go_wp2
          go_ret
          exact ⟨by rw [HR.out]; rfl, rfl⟩
      · have d1 : decide ((48 : Int) ≤ (c : Int)) = false := by simp; omega
        have d3 : decide ((97 : Int) ≤ (c : Int)) = false := by simp; omega
        clear h1 h3
        go_enter Tryz.func68, Tryz.ntmps68
        go_wp2
        go_ret
        exact ⟨by rw [HR.out]; rfl, rfl⟩
theorem val_drop_step {b : Nat} {xs : List Nat} {k : Nat} (h : k < xs.length) : val b (xs.drop k) = val b (xs.drop (k + 1)) * b + nth xs k := by
  rw [List.drop_eq_getElem_cons h, val, nth_lt h, Nat.mul_comm]
  omega
set_option maxHeartbeats 2000000 in
theorem fromDigits6_any {A : Option Addr} {n c b : Nat} {b' : Int} {zs : List Int} {w : World} (h : Rdz w A n c zs) (hok : okDigs zs b) (eb : b' = (b : Int)) (hb : 2 ≤ b) (hb36 : b ≤ 36) (hn : n ≤ 1073741824) :
    Calls Tryz.prog 6 #[.slice A n c, .int .i64 b'] w (GNE w (val b (toN zs)) (n + 1) 0) := by
  subst eb
  have H := Lib.hid h
  have HK := Lib.hid hok
  have HA := Lib.hid (okDigs_all hok)
  have hln := h.1.1
  have d1 : decide ((b : Int) < 2) = false := by simp; omega
  have d2 : decide ((36 : Int) < (b : Int)) = false := by simp; omega
  clear h hok
  go_enter Tryz.func6, Tryz.ntmps6
  go_wp2
  go_loop [6] (fun iv => ∃ k : Nat, k ≤ n ∧ iv = .int .i64 (k : Int)) (fun iv => n - (intOf iv).toNat)
  case atStart => exact ⟨0, Nat.zero_le _, rfl⟩
  case round =>
    obtain ⟨k, hk, rfl⟩ := hrel
    by_cases hlt : k < n
    · obtain ⟨bb, off, ea, hbb, hca⟩ := H.out.2 (by omega)
      subst ea
      have hcb := hca k hlt
      clear hca
      have i1 : (0 : Int) ≤ (k : Int) := by omega
      have i2 : (k : Int) < (n : Int) := by omega
      obtain ⟨z1, z2⟩ := HK.out k (by omega)
      have q1 : decide (zth zs k < 0) = false := by simp; omega
      have q2 : decide ((b : Int) ≤ zth zs k) = false := by simp; omega
      generalize zth zs k = z at *
      go_wp2
      go_round
      case rel => exact ⟨k + 1, by omega, by go_num⟩
      case measure => simp [intOf]; omega
    · obtain rfl : k = n := by omega
      have CW := Lib.hid (word5_any (w := w) (x := b) (x' := (b : Int)) rfl (by omega))
      go_wp2_with fail
      refine CW.out.mono ?_
      rintro e w1 ⟨A1, n1, c1, rfl, ho1, hb1, hl1⟩
      have HB := Lib.hid (And.intro ho1 hb1)
      clear ho1 hb1
      go_wp2
      go_loopw [7, 9] (fun nv iv wr => ∃ (j : Nat) (B : Option Addr) (m e : Nat), Hid (Own .u64 28 w.heap.size wr B m e (dg W (val b ((toN zs).drop j))) ∧ Below w1.heap.size w1 wr) ∧ j ≤ k ∧ nv = .slice B m e ∧ iv = .int .i64 ((j : Int) - 1)) (fun _ iv _ => (intOf iv + 1).toNat)
      case atStart =>
        refine ⟨k, none, 0, 0, ⟨?_, Below.refl _ _⟩, Nat.le_refl _, rfl, by go_num⟩
        rw [List.drop_of_length_le (by simp [toN, hln])]
        show Own _ _ _ _ _ _ _ (dg W 0)
        rw [dg_zero W_gt]
        exact Own.nil
      case round =>
        obtain ⟨j, B, m, e, hI, hj, rfl, rfl⟩ := hrel
        have hm : m ≤ k - j := by
          rw [← hI.out.1.len]
          have h1 := val_lt (HA.out.drop j)
          rw [List.length_drop, show (toN zs).length = k by simp [toN, hln]] at h1
          exact dg_len W_gt (Nat.lt_of_lt_of_le h1 (Nat.pow_le_pow_left (by rw [W_eq]; omega) _))
        by_cases h0 : j = 0
        · subst h0
          have HF := hI.out
          rw [List.drop_zero] at HF
          have HF2 : Hid (Own .u64 28 w.heap.size wr B m e (dg W (val b (toN zs))) ∧ Below w.heap.size w wr) := ⟨HF.1, bt HB.out.2 HF.2⟩
          clear hI HF
          go_wp2
          go_ret2
          exact ⟨_, _, _, rfl, HF2.out.1, HF2.out.2, by omega⟩
        · obtain ⟨i, rfl⟩ : ∃ i, j = i + 1 := ⟨j - 1, by omega⟩
          obtain ⟨bb, off, ea, hbb, hca⟩ := ((H.out.below HB.out.2).below hI.out.2).2 (by omega)
          subst ea
          have hcb := hca i (by omega)
          clear hca
          obtain ⟨z1, z2⟩ := HK.out i (by omega)
          obtain ⟨d, hd⟩ : ∃ d : Nat, zth zs i = (d : Int) := ⟨(zth zs i).toNat, by omega⟩
          have HV : Hid (val b ((toN zs).drop (i + 1)) * b + d = val b ((toN zs).drop i)) := by
            show _ = _
            rw [val_drop_step (k := i) (by simp [toN, hln]; omega), nth_toN (by omega), hd]
            simp
          rw [hd] at hcb z2
          have hd36 : d < 36 := by omega
          have i1 : (0 : Int) ≤ (i : Int) := by omega
          have i2 : (i : Int) < (k : Int) := by omega
          have hg : ∀ w', Grow none wr.drew w' → w'.cell? ⟨bb, off + i, none⟩ = some (.int .i64 (d : Int)) := fun w' h => h.cell hcb (by simp)
          clear z1 z2 hd
          go_wp2_with fail
          refine wp_region_grow none [(true, 0), (true, 1), (true, 3), (true, 4), (true, 5), (true, 6), (false, 2), (false, 7), (false, 8), (true, 9)] (by kernel_rfl) (by kernel_rfl) ?_
          repeat (refine ord_pas (by rfl) (fun K hK => ?_); go_simp; refine hK _ _ (fun w' hw' => (by first | (go_simp; done) | (go_simp; intro hh; cases hh))) ?_; clear hK K)
          (refine ord_call (by rfl) (fun K hK => ?_); go_simp; refine hK _ _ ?_; clear hK K)
          refine (times5_any ((hI.out.1.num hm).below (below_drewN _ 1)) (((HB.out.1.num hl1).below hI.out.2).below (below_drewN _ 1)) (by omega) (by omega)).mono ?_
          rintro e w1 ⟨A_t, n_t, c_t, rfl, o_t, hb1, l_t⟩
          refine ⟨_, rfl, Grow.of_below hb1, ?_⟩
          (refine ord_norm (fun K hK => ?_); go_simp; refine hK _ ?_; clear hK K)
          (refine ord_call (by rfl) (fun K hK => ?_); go_simp; refine hK _ _ ?_; clear hK K)
          refine (word5_any (x := d) rfl (by omega)).mono ?_
          rintro e w2 ⟨A_q, n_q, c_q, rfl, o_q, hb2, l_q⟩
          refine ⟨_, rfl, Grow.of_below hb2, ?_⟩
          (refine ord_norm (fun K hK => ?_); go_simp; refine hK _ ?_; clear hK K)
          (refine ord_call (by rfl) (fun K hK => ?_); go_simp; refine hK _ _ ?_; clear hK K)
          refine (plus5_any ((o_t.num l_t).below hb2) (o_q.num l_q) (by omega) (by omega)).mono ?_
          rintro e w3 ⟨A_s, n_s, c_s, rfl, o_s, hb3, l_s⟩
          refine ⟨_, rfl, Grow.of_below hb3, ?_⟩
          (refine ord_norm (fun K hK => ?_); go_simp; refine hK _ ?_; clear hK K)
          repeat (refine ord_pas (by rfl) (fun K hK => ?_); go_simp; refine hK _ _ (fun w' hw' => (by first | (go_simp; done) | (go_simp; intro hh; cases hh))) ?_; clear hK K)
          refine ord_nil ?_
          rw [HV.out] at o_s
          have HN := Lib.hid (And.intro (o_s.mono (bt (bt (below_drewN _ 1) hb1) hb2).size) (bt (bt (bt (below_drewN _ 1) hb1) hb2) hb3))
          clear hg o_s
          go_wp2
          go_roundw
          case rel => exact ⟨i, _, _, _, ⟨HN.out.1.mono (Nat.le_trans HB.out.2.size hI.out.2.size), bt hI.out.2 HN.out.2⟩, by omega, rfl, by go_num⟩
          case measure => simp [intOf]
end Go.Proofs.YtajoafcondgelaaGreatDoor
namespace Go.Proofs.YtajoafcondgelaaGreatDoor
open Go.RowKit
set_option linter.unusedVariables false
/-- the greatest power of the base below 65536 is sought: k of them -/
theorem wds_split {b k x : Nat} : wds b k x = wds b k (x % b ^ k) := by
  induction k generalizing x with
  | zero => rfl
  | succ k ih =>
    rw [wds, wds, ih, ih (x := x % b ^ (k + 1) / b)]
    have h1 : x % b ^ (k + 1) % b = x % b := by rw [Nat.pow_succ, Nat.mul_comm]; exact Nat.mod_mul_right_mod x b (b ^ k)
    have h2 : x % b ^ (k + 1) / b = x / b % b ^ k := by rw [Nat.pow_succ, Nat.mul_comm]; exact Nat.mod_mul_right_div_self x b (b ^ k)
    rw [h1, h2, Nat.mod_mod]
theorem wds_add {b k j x : Nat} : wds b (k + j) x = wds b k x ++ wds b j (x / b ^ k) := by
  induction k generalizing x with
  | zero => simp [wds]
  | succ k ih =>
    rw [show k + 1 + j = k + j + 1 by omega, wds, wds, ih, List.cons_append, Nat.div_div_eq_div_mul, Nat.pow_succ, Nat.mul_comm b]
/-- an own slice beside one of another type that has grown -/
theorem Own.besides {k : IntKind} {t T : TypeId} {B n c m s : Nat} {A : Option Addr} {xs : List Nat} {vs : List Value} {v : Value} {w w' : World} (ho : Own k t B w A n c xs) (hr : w.ownsRow B T s v m vs) (hne : t ≠ T) (hg : w.grownBy w' v.ownBlock) : Own k t B w' A n c xs := by
  refine World.ownsRow.kept ho hg ?_
  rcases ho.2 with ⟨h1, _⟩ | ⟨g, cap, cur, h1, _, hgb, _⟩
  · injection h1 with h1 _ _
    subst h1
    exact .inl rfl
  · injection h1 with h1 _ _
    subst h1
    refine .inr fun e => ?_
    rcases hr.2 with ⟨h2, _⟩ | ⟨g2, cap2, cur2, h2, _, hgb2, _⟩
    · rw [h2] at e; cases e
    · rw [h2] at e
      simp only [Value.ownBlock] at e
      injection e with e
      subst e
      rw [hgb] at hgb2
      injection hgb2 with hgb2
      injection hgb2 with _ e2 _
      exact hne e2
def Dg6I (w0 : World) (b x k j L : Nat) (wr : World) (A : Option Addr) (n c : Nat) (B : Option Addr) (m e : Nat) : Prop :=
  Own .u64 28 w0.heap.size wr A n c (dg W (x / b ^ (k * j))) ∧ Own .i64 3 w0.heap.size wr B m e (wds b (k * j) x) ∧ Below w0.heap.size w0 wr ∧ n ≤ L
theorem few_digits {b x k j L : Nat} (hb : 2 ≤ b) (h : x / b ^ (k * j) ≠ 0) (hx : x < W ^ L) : k * j < 64 * L := by
  have h1 : b ^ (k * j) ≤ x := by
    rcases Nat.lt_or_ge x (b ^ (k * j)) with h2 | h2
    · exact absurd (Nat.div_eq_of_lt h2) h
    · exact h2
  have h2 : 2 ^ (k * j) ≤ b ^ (k * j) := Nat.pow_le_pow_left hb _
  have h3 : W ^ L = 2 ^ (64 * L) := by rw [show W = 2 ^ 64 from rfl, ← Nat.pow_mul]
  rw [h3] at hx
  exact (Nat.pow_lt_pow_iff_right (by omega)).1 (Nat.lt_of_le_of_lt (Nat.le_trans h2 h1) hx)
set_option maxHeartbeats 4000000 in
set_option maxRecDepth 100000 in
theorem digits6_any {v : Value} {x L b : Nat} {b' : Int} {w : World} (h : Num w v x L) (eb : b' = (b : Int)) (hb : 2 ≤ b) (hb36 : b ≤ 36) (hL1 : 1 ≤ L) (hL : L ≤ 16777216) :
    Calls Tryz.prog 5 #[v, .int .i64 b'] w (GDI w b x) := by
  subst eb
  obtain ⟨_, _, _, _, rfl, _⟩ := id h
  have H := Lib.hid h
  have HX := Lib.hid h.lt
  have HE := Lib.hid elI
  have d1 : decide ((b : Int) < 2) = false := by simp; omega
  have d2 : decide ((36 : Int) < (b : Int)) = false := by simp; omega
  clear h
  go_enter Tryz.func5, Tryz.ntmps5
  go_wp2
  go_loop [6, 7] (fun kv pv => ∃ k P : Nat, Hid (P = b ^ k) ∧ 1 ≤ k ∧ k ≤ P ∧ P < 65536 ∧ kv = .int .i64 (k : Int) ∧ pv = .int .i64 (P : Int)) (fun _ pv => 65536 - (intOf pv).toNat)
  case atStart => exact ⟨1, b, (by show b = b ^ 1; rw [Nat.pow_one]), by omega, by omega, by omega, rfl, rfl⟩
  case round =>
    obtain ⟨k, P, hP, hk1, hkP, hPl, rfl, rfl⟩ := hrel
    obtain ⟨Q, hQ⟩ : ∃ Q, Q = P * b := ⟨_, rfl⟩
    have eQ : (P : Int) * (b : Int) = (Q : Int) := by rw [hQ, Int.natCast_mul]
    have hQ2 : 2 * P ≤ Q := by rw [hQ, Nat.mul_comm]; exact Nat.mul_le_mul_left _ hb
    have hQ3 : Q ≤ P * 36 := by rw [hQ]; exact Nat.mul_le_mul_left _ hb36
    have HQ := Lib.hid hQ
    clear hQ
    by_cases hlt : Q < 65536
    · have d3 : decide ((Q : Int) < 65536) = true := by simp; omega
      go_wp2
      go_round
      case rel => exact ⟨k + 1, Q, (by show Q = b ^ (k + 1); rw [HQ.out, hP.out, Nat.pow_succ]), by omega, by omega, hlt, by go_num, rfl⟩
      case measure => simp [intOf]; omega
    · have d3 : decide ((Q : Int) < 65536) = false := by simp; omega
      go_wp2_with fail
      refine (norm5_any H.out (by omega)).mono ?_
      rintro e w1 ⟨A_nn, n_nn, c_nn, rfl, o_nn, hb1, l_nn⟩
      have HNN := Lib.hid (And.intro o_nn (And.intro hb1 l_nn))
      clear o_nn hb1
      go_wp2
      obtain ⟨wn, hwn⟩ : ∃ wn : World, wn = w1 := ⟨_, rfl⟩
      go_loopw [0, 8] (fun nv dv wr => ∃ (j n c m e : Nat) (A B : Option Addr), Hid (Dg6I w b x k j L wr A n c B m e) ∧ nv = .slice A n c ∧ dv = .slice B m e) (fun nv _ wr => mval wr nv)
      case atStart => exact ⟨0, _, _, 0, 0, _, none, ⟨by simpa using HNN.out.1, Own.nil, HNN.out.2.1, HNN.out.2.2⟩, rfl, rfl⟩
      case round =>
        obtain ⟨j, n, c, m, e, A, B, hI, rfl, rfl⟩ := hrel
        obtain ⟨wo, rfl⟩ : ∃ wo : World, wo = wr := ⟨_, rfl⟩
        have hnL := hI.out.2.2.2
        have hmk : m = k * j := by have := hI.out.2.1.len; rw [wds_length] at this; exact this.symm
        have HMK := Lib.hid hmk
        by_cases h0 : x / b ^ (k * j) = 0
        · obtain rfl : n = 0 := len_zero hI.out.1 h0
          have HFI : Hid (Own .i64 3 w.heap.size wo B m e (wds b (k * j) x) ∧ Below w.heap.size w wo ∧ strip (wds b (k * j) x) = dg b x) := by
            refine ⟨hI.out.2.1, hI.out.2.2.1, ?_⟩
            rw [strip_eq_dg (by omega) (wds_all (by omega) _ _), val_wds, Nat.mod_eq_of_lt]
            rcases Nat.lt_or_ge x (b ^ (k * j)) with h1 | h1
            · exact h1
            · have := Nat.div_pos h1 (Nat.pow_pos (by omega))
              omega
          have hmx : m ≤ maxLen := Nat.le_trans hI.out.2.1.cap.1 hI.out.2.1.cap.2
          unfold maxLen at hmx
          clear hI h0 hmk
          obtain ⟨ws, hws⟩ : ∃ ws, ws = wds b (k * j) x := ⟨_, rfl⟩
          rw [← hws] at HFI
          clear hws
          go_wp2
          go_loop [8] (fun dv => ∃ q : Nat, Hid (∀ t, q ≤ t → nth ws t = 0) ∧ q ≤ m ∧ dv = .slice B q e) (fun d => match d with | .slice _ q _ => q | _ => 0)
          case atStart => exact ⟨m, fun t ht => nth_ge (by rw [HFI.out.1.len]; exact ht), Nat.le_refl _, rfl⟩
          case round =>
            obtain ⟨q, hZ, hq, rfl⟩ := hrel
            have FIN : Hid ((q = 0 ∨ nth ws (q - 1) ≠ 0) → GDI w b x (.returned (.tuple #[.slice B q e, .int .i64 0])) wo) := fun ht => by
              have e1 := strip_of_top (xs := ws) (m := q) (by rw [HFI.out.1.len]; exact hq) hZ.out ht
              rw [HFI.out.2.2] at e1
              exact ⟨B, q, e, rfl, by rw [e1]; exact HFI.out.1.upto hq, HFI.out.2.1⟩
            by_cases h0 : q = 0
            · subst h0
              go_wp2
              go_ret2
              exact FIN.out (by simp)
            · obtain ⟨p, rfl⟩ : ∃ p, q = p + 1 := ⟨q - 1, by omega⟩
              obtain ⟨b1, off1, ea, _, hcd⟩ := HFI.out.1.rd.at (i := p) (by omega)
              subst ea
              have hcp := HFI.out.1.cap
              have i1 : p + 1 ≤ e := by omega
              clear hcp
              by_cases hz : nth ws p = 0
              · have q0 : (((nth ws p : Nat) : Int) == 0) = true := by rw [hz]; rfl
                have HZ : Hid (∀ t, p ≤ t → nth ws t = 0) := fun t ht => by
                  by_cases hjm : t = p
                  · rw [hjm]; exact hz
                  · exact hZ.out t (by omega)
                clear hz
                generalize nth ws p = d at *
                go_wp2
                go_round
                case rel => exact ⟨p, HZ, by omega, rfl⟩
                case measure => simp
              · have q0 : (((nth ws p : Nat) : Int) == 0) = false := by rw [beq_eq_false_iff_ne]; omega
                have HF2 := Lib.hid (FIN.out (.inr hz))
                clear hz
                generalize nth ws p = d at *
                go_wp2
                go_ret2
                exact HF2.out
        · have hn0 : 0 < n := len_pos hI.out.1 (Nat.pos_of_ne_zero h0)
          have d4 : decide ((0 : Int) < (n : Int)) = true := by simp; exact hn0
          have HMV : Hid (mval wo (.slice A n c) = x / b ^ (k * j)) := mval_num (hI.out.1.num hnL)
          have hkj := few_digits hb h0 HX.out
          have HN0 := Lib.hid (Nat.pos_of_ne_zero h0)
          clear h0 hmk
          go_wp2_with fail
          refine (word5_any (x := P) rfl hPl).mono ?_
          rintro e w1 ⟨A_pw, n_pw, c_pw, rfl, o_pw, hb1, l_pw⟩
          go_wp2_with fail
          refine (quo5_any ((hI.out.1.num hnL).below hb1) (o_pw.num l_pw) (by omega) (by omega) (by omega) hL1 (by omega)).mono ?_
          rintro e w2 ⟨A_qq, n_qq, c_qq, A_rr, n_rr, c_rr, rfl, o_qq, o_rr, hb2, l_qq, l_rr⟩
          have HS : Hid (Own .u64 28 wo.heap.size w2 A_qq n_qq c_qq (dg W (x / b ^ (k * j) / P)) ∧ Below wo.heap.size wo w2) := ⟨(o_qq.mono hb1.size), (bt hb1 hb2)⟩
          obtain ⟨V, hV⟩ : ∃ V, V = x / b ^ (k * j) % P := ⟨_, rfl⟩
          rw [← hV] at o_rr
          have HV := Lib.hid hV
          have hVP : V < P := by rw [hV]; exact Nat.mod_lt _ (by omega)
          clear hV
          by_cases hv0 : V = 0
          · obtain rfl : n_rr = 0 := len_zero o_rr hv0
            have HV0 := Lib.hid hv0
            clear hv0 o_qq o_rr hb1 hb2
            go_wp2
            go_loopw [8, 11, 12] (fun dv vv iv wx => ∃ (i m2 e2 : Nat) (B2 : Option Addr), Hid (Own .i64 3 w.heap.size wx B2 m2 e2 (wds b (k * j) x ++ wds b i V) ∧ Own .u64 28 w.heap.size wx A_qq n_qq c_qq (dg W (x / b ^ (k * j) / P)) ∧ Below w.heap.size w wx) ∧ i ≤ k ∧ dv = .slice B2 m2 e2 ∧ vv = .int .i64 ((V / b ^ i : Nat) : Int) ∧ iv = .int .i64 (i : Int)) (fun _ _ iv _ => k - (intOf iv).toNat)
            case atStart => exact ⟨0, m, e, B, ⟨by rw [wds, List.append_nil]; exact hI.out.2.1.below HS.out.2, HS.out.1.mono hI.out.2.2.1.size, bt hI.out.2.2.1 HS.out.2⟩, Nat.zero_le _, rfl, (by rw [HV0.out]; simp), rfl⟩
            case round =>
              obtain ⟨i, m2, e2, B2, hJ, hik, rfl, rfl, rfl⟩ := hrel
              obtain ⟨wx, rfl⟩ : ∃ wx : World, wx = wr := ⟨_, rfl⟩
              by_cases hlt2 : i < k
              · have d5 : decide ((i : Int) < (k : Int)) = true := by simp; exact hlt2
                have hm2 : Hid (m2 = k * j + i) := by
                  show _ = _
                  have := hJ.out.1.len
                  rw [List.length_append, wds_length, wds_length] at this
                  exact this.symm
                obtain ⟨U, hU⟩ : ∃ U, U = V / b ^ i := ⟨_, rfl⟩
                obtain ⟨r, hr⟩ : ∃ r, r = U % b := ⟨_, rfl⟩
                obtain ⟨U2, hU2⟩ : ∃ U2, U2 = U / b := ⟨_, rfl⟩
                have eR : (U : Int) % (b : Int) = (r : Int) := by rw [hr, Int.natCast_emod]
                have eD : (U : Int) / (b : Int) = (U2 : Int) := by rw [hU2, Int.natCast_ediv]
                have hUV : U ≤ V := by rw [hU]; exact Nat.div_le_self _ _
                have hrb : r < b := by rw [hr]; exact Nat.mod_lt _ (by omega)
                have hU2U : U2 ≤ U := by rw [hU2]; exact Nat.div_le_self _ _
                have nz1 : ((b : Int) == 0) = false := by rw [beq_eq_false_iff_ne]; omega
                have nz2 : (b : Int) ≠ 0 := by omega
                have nz3 : ¬ b = 0 := by omega
                have HW : Hid (wds b (k * j) x ++ wds b (i + 1) V = (wds b (k * j) x ++ wds b i V) ++ [r]) := by
                  show _ = _
                  rw [wds_snoc, List.append_assoc, hr, hU]
                have HU3 : Hid (U2 = V / b ^ (i + 1)) := by show _ = _; rw [hU2, hU, Nat.div_div_eq_div_mul, Nat.pow_succ]
                rw [← hU]
                clear hU hr hU2
                go_wp2_with (at_builtin; (refine wpList_app rfl (.tmp 53) (.tmp 57) rfl HE.out (t := 3) (k := .i64) (B := w.heap.size) (ys := [r]) rfl rfl (hJ.out.1.alloc _) (Rd.lit1 wx r) (by have := hm2.out; omega) (by have := hJ.out.2.2.size; simp; omega) ?_); intro B3 e3 w3 ho3 hb3 hg3 _)
                have HNX : Hid (Own .i64 3 w.heap.size w3 B3 (m2 + 1) e3 (wds b (k * j) x ++ wds b (i + 1) V) ∧ Own .u64 28 w.heap.size w3 A_qq n_qq c_qq (dg W (x / b ^ (k * j) / P)) ∧ Below w.heap.size w w3) :=
                  ⟨by rw [HW.out]; exact ho3, (hJ.out.2.1.alloc _).besides (hJ.out.1.alloc _) (by decide) hg3, (hJ.out.2.2.alloc hJ.out.2.2.size _).trans hb3⟩
                clear ho3 hb3 hg3
                go_roundw
                case rel => exact ⟨i + 1, _, _, _, HNX, hlt2, rfl, by rw [HU3.out], by go_num⟩
                case measure => simp [intOf]; omega
              · have d5 : decide ((i : Int) < (k : Int)) = false := by simp; omega
                obtain rfl : i = k := by omega
                have HEQ : Hid (x / b ^ (i * j) / P = x / b ^ (i * (j + 1)) ∧ wds b (i * j) x ++ wds b i V = wds b (i * (j + 1)) x) := by
                  refine ⟨?_, ?_⟩
                  · rw [hP.out, Nat.div_div_eq_div_mul, ← Nat.pow_add, Nat.mul_succ]
                  · rw [Nat.mul_succ, wds_add, HV.out, hP.out, ← wds_split]
                have HRL : Hid (Dg6I w b x i (j + 1) L wx A_qq n_qq c_qq B2 m2 e2 ∧ mval wx (.slice A_qq n_qq c_qq) = x / b ^ (i * j) / P) := by
                  obtain ⟨t1, t2, t3⟩ := hJ.out
                  have t4 := mval_num (t2.num l_qq)
                  rw [HEQ.out.1] at t2
                  rw [HEQ.out.2] at t1
                  exact ⟨⟨t2, t1, t3, l_qq⟩, t4⟩
                have HLT : Hid (x / b ^ (i * j) / P < x / b ^ (i * j)) := Nat.div_lt_self HN0.out (by omega)
                go_wp2
                go_roundw
                case rel => exact ⟨j + 1, _, _, _, _, _, _, HRL.out.1, rfl, rfl⟩
                case measure => rw [HRL.out.2, HMV.out]; exact HLT.out
          · have hn1 : n_rr = 1 := by
              have := len_pos o_rr (Nat.pos_of_ne_zero hv0)
              omega
            subst hn1
            obtain ⟨e1, _⟩ := dg_one (y := V) (by rw [o_rr.len])
            obtain ⟨b3, off3, ea3, _, hc3⟩ := o_rr.rd.at (i := 0) (by omega)
            subst ea3
            rw [e1, Nat.add_zero] at hc3
            clear hv0 o_qq o_rr hb1 hb2 e1
            go_wp2
            go_loopw [8, 11, 12] (fun dv vv iv wx => ∃ (i m2 e2 : Nat) (B2 : Option Addr), Hid (Own .i64 3 w.heap.size wx B2 m2 e2 (wds b (k * j) x ++ wds b i V) ∧ Own .u64 28 w.heap.size wx A_qq n_qq c_qq (dg W (x / b ^ (k * j) / P)) ∧ Below w.heap.size w wx) ∧ i ≤ k ∧ dv = .slice B2 m2 e2 ∧ vv = .int .i64 ((V / b ^ i : Nat) : Int) ∧ iv = .int .i64 (i : Int)) (fun _ _ iv _ => k - (intOf iv).toNat)
            case atStart => exact ⟨0, m, e, B, ⟨by rw [wds, List.append_nil]; exact hI.out.2.1.below HS.out.2, HS.out.1.mono hI.out.2.2.1.size, bt hI.out.2.2.1 HS.out.2⟩, Nat.zero_le _, rfl, (by simp), rfl⟩
            case round =>
              obtain ⟨i, m2, e2, B2, hJ, hik, rfl, rfl, rfl⟩ := hrel
              obtain ⟨wx, rfl⟩ : ∃ wx : World, wx = wr := ⟨_, rfl⟩
              by_cases hlt2 : i < k
              · have d5 : decide ((i : Int) < (k : Int)) = true := by simp; exact hlt2
                have hm2 : Hid (m2 = k * j + i) := by
                  show _ = _
                  have := hJ.out.1.len
                  rw [List.length_append, wds_length, wds_length] at this
                  exact this.symm
                obtain ⟨U, hU⟩ : ∃ U, U = V / b ^ i := ⟨_, rfl⟩
                obtain ⟨r, hr⟩ : ∃ r, r = U % b := ⟨_, rfl⟩
                obtain ⟨U2, hU2⟩ : ∃ U2, U2 = U / b := ⟨_, rfl⟩
                have eR : (U : Int) % (b : Int) = (r : Int) := by rw [hr, Int.natCast_emod]
                have eD : (U : Int) / (b : Int) = (U2 : Int) := by rw [hU2, Int.natCast_ediv]
                have hUV : U ≤ V := by rw [hU]; exact Nat.div_le_self _ _
                have hrb : r < b := by rw [hr]; exact Nat.mod_lt _ (by omega)
                have hU2U : U2 ≤ U := by rw [hU2]; exact Nat.div_le_self _ _
                have nz1 : ((b : Int) == 0) = false := by rw [beq_eq_false_iff_ne]; omega
                have nz2 : (b : Int) ≠ 0 := by omega
                have nz3 : ¬ b = 0 := by omega
                have HW : Hid (wds b (k * j) x ++ wds b (i + 1) V = (wds b (k * j) x ++ wds b i V) ++ [r]) := by
                  show _ = _
                  rw [wds_snoc, List.append_assoc, hr, hU]
                have HU3 : Hid (U2 = V / b ^ (i + 1)) := by show _ = _; rw [hU2, hU, Nat.div_div_eq_div_mul, Nat.pow_succ]
                rw [← hU]
                clear hU hr hU2
                go_wp2_with (at_builtin; (refine wpList_app rfl (.tmp 53) (.tmp 57) rfl HE.out (t := 3) (k := .i64) (B := w.heap.size) (ys := [r]) rfl rfl (hJ.out.1.alloc _) (Rd.lit1 wx r) (by have := hm2.out; omega) (by have := hJ.out.2.2.size; simp; omega) ?_); intro B3 e3 w3 ho3 hb3 hg3 _)
                have HNX : Hid (Own .i64 3 w.heap.size w3 B3 (m2 + 1) e3 (wds b (k * j) x ++ wds b (i + 1) V) ∧ Own .u64 28 w.heap.size w3 A_qq n_qq c_qq (dg W (x / b ^ (k * j) / P)) ∧ Below w.heap.size w w3) :=
                  ⟨by rw [HW.out]; exact ho3, (hJ.out.2.1.alloc _).besides (hJ.out.1.alloc _) (by decide) hg3, (hJ.out.2.2.alloc hJ.out.2.2.size _).trans hb3⟩
                clear ho3 hb3 hg3
                go_roundw
                case rel => exact ⟨i + 1, _, _, _, HNX, hlt2, rfl, by rw [HU3.out], by go_num⟩
                case measure => simp [intOf]; omega
              · have d5 : decide ((i : Int) < (k : Int)) = false := by simp; omega
                obtain rfl : i = k := by omega
                have HEQ : Hid (x / b ^ (i * j) / P = x / b ^ (i * (j + 1)) ∧ wds b (i * j) x ++ wds b i V = wds b (i * (j + 1)) x) := by
                  refine ⟨?_, ?_⟩
                  · rw [hP.out, Nat.div_div_eq_div_mul, ← Nat.pow_add, Nat.mul_succ]
                  · rw [Nat.mul_succ, wds_add, HV.out, hP.out, ← wds_split]
                have HRL : Hid (Dg6I w b x i (j + 1) L wx A_qq n_qq c_qq B2 m2 e2 ∧ mval wx (.slice A_qq n_qq c_qq) = x / b ^ (i * j) / P) := by
                  obtain ⟨t1, t2, t3⟩ := hJ.out
                  have t4 := mval_num (t2.num l_qq)
                  rw [HEQ.out.1] at t2
                  rw [HEQ.out.2] at t1
                  exact ⟨⟨t2, t1, t3, l_qq⟩, t4⟩
                have HLT : Hid (x / b ^ (i * j) / P < x / b ^ (i * j)) := Nat.div_lt_self HN0.out (by omega)
                go_wp2
                go_roundw
                case rel => exact ⟨j + 1, _, _, _, _, _, _, HRL.out.1, rfl, rfl⟩
                case measure => rw [HRL.out.2, HMV.out]; exact HLT.out
end Go.Proofs.YtajoafcondgelaaGreatDoor
namespace Go.Proofs.YtajoafcondgelaaGreatDoor
open Go.RowKit
set_option linter.unusedVariables false

/-- append of one byte -/
theorem wpList_app81 {P : Program} {T t : TypeId} {B : Nat} {w : World} {A : Option Addr} {n c y : Nat} {xs : List Nat} {ops : Array Oper} {rest : List Oper} {o : Oper} {a : Act} {Q : Exit → Act → World → Prop} (hgd : o.guard = none) (s x : Operand)
    (ho : o.op = .call { callee := .builtin .append, args := #[s, x], argTypes := #[T, T] }) (he : Elem8 P T t)
    (hs : a.eval s = .slice A n c) {ad : Addr} (hx : a.eval x = .slice (some ad) 1 1) (hown : Own .u8 t B w A n c xs) (hc : w.cell? ad = some (.int .u8 (y : Int))) (hlen : n + 1 ≤ 1099511627776) (hB : B ≤ w.heap.size)
    (h : ∀ A' c' w', Own .u8 t B w' A' (n + 1) c' (xs ++ [y]) → Below B w w' → wpList P ops Q rest (a.put o.dst (.slice A' (n + 1) c')) w') : wpList P ops Q (o :: rest) a w := by
  obtain ⟨hT, hinfo⟩ := he
  obtain ⟨i, hi, hr⟩ := Option.map_eq_some_iff.1 hinfo
  simp only [Prod.mk.injEq] at hr
  obtain ⟨hz, hs1, hb⟩ := hr
  refine wpList_append_own_at w hgd s x T ho B t i (.int .u8 0) 1 1 hT hi hz hs1 hb rfl (by decide) _ n _ hs hown ad 1 1 [.int .u8 (y : Int)] hx rfl ?_ (by simp [Value.oneCell']) (by simp only [maxLen]; omega) (by omega) hB ?_
  · intro j u hj
    rcases j with _ | j
    · simp at hj; subst hj
      have : ad.add 0 = ad := by unfold Addr.add; split <;> simp_all
      rw [this]; exact hc
    · simp at hj
  · intro v' w' h1 h2
    intros
    obtain ⟨A', c', rfl⟩ := row_slice h1
    refine h A' c' w' ?_ ((Below.refl _ _).grown h2 hB (fun g hg' => (World.ownsRow.lt hown g hg').1))
    unfold Own
    rw [List.map_append]
    exact h1
set_option maxHeartbeats 1000000 in
theorem pow5_any {v : Value} {x L N : Nat} {n' : Int} {w : World} (h : Num w v x L) (en : n' = (N : Int)) (hN : N ≤ 10000) (hLN : L * N ≤ 1073741824) (hL : L ≤ 1073741824) :
    Calls Tryz.prog 24 #[v, .int .i64 n'] w (GN w (x ^ N) (L * N + 1)) := by
  subst en
  have H := Lib.hid h
  have HX := Lib.hid h.lt
  have C1 := Lib.hid (word5_any (w := w) (x := 1) (x' := 1) rfl (by omega))
  have HLN := Lib.hid hLN
  obtain ⟨_, _, _, _, rfl, _⟩ := id h
  have hlen : ∀ i, i ≤ N → (dg W (x ^ i)).length ≤ L * N + 1 := fun i hi => by
    refine dg_len W_gt ?_
    have h1 : x ^ i ≤ (W ^ L) ^ i := Nat.pow_le_pow_left (Nat.le_of_lt HX.out) i
    rw [← Nat.pow_mul] at h1
    have h2 : W ^ (L * i) ≤ W ^ (L * N) := Nat.pow_le_pow_right W_pos (Nat.mul_le_mul_left _ hi)
    have h3 : W ^ (L * N) < W ^ (L * N + 1) := Nat.pow_lt_pow_right W_gt (by omega)
    omega
  have HLEN := Lib.hid hlen
  clear h hlen hLN
  go_enter Tryz.func24, Tryz.ntmps24
  go_wp2_with fail
  refine C1.out.mono ?_
  rintro e w1 ⟨A1, n1, c1, rfl, ho1, hb1, hl1⟩
  have HO := Lib.hid (And.intro ho1 hb1)
  clear ho1 hb1
  go_wp2
  go_loopw [5, 6] (fun nv iv wr => ∃ (i n c : Nat) (A : Option Addr), Hid (Own .u64 28 w.heap.size wr A n c (dg W (x ^ i)) ∧ Below w.heap.size w wr) ∧ i ≤ N ∧ nv = .slice A n c ∧ iv = .int .i64 (i : Int)) (fun _ iv _ => N - (intOf iv).toNat)
  case atStart => exact ⟨0, _, _, _, ⟨by rw [Nat.pow_zero]; exact HO.out.1, HO.out.2⟩, Nat.zero_le _, rfl, rfl⟩
  case round =>
    obtain ⟨i, n, c, A, hI, hi, rfl, rfl⟩ := hrel
    have hn : n ≤ 2147483648 := by have := HLEN.out i hi; rw [hI.out.1.len] at this; have := HLN.out; omega
    by_cases hlt : i < N
    · have CT := Lib.hid (times5_any (hI.out.1.num (Nat.le_refl _)) (H.out.below hI.out.2) (by omega) (by omega))
      rw [← Nat.pow_succ] at CT
      go_wp2_with fail
      refine CT.out.mono ?_
      rintro e w3 ⟨A3, n3, c3, rfl, ho3, hb3, hl3⟩
      have HN : Hid (Own .u64 28 w.heap.size w3 A3 n3 c3 (dg W (x ^ (i + 1))) ∧ Below w.heap.size w w3) := ⟨ho3.mono hI.out.2.size, bt hI.out.2 hb3⟩
      clear ho3 hb3
      go_wp2
      go_roundw
      case rel => exact ⟨i + 1, _, _, _, HN, hlt, rfl, by go_num⟩
      case measure => simp [intOf]; omega
    · obtain rfl : i = N := by omega
      have HL2 : Hid (n ≤ L * i + 1) := by show _ ≤ _; rw [← hI.out.1.len]; exact HLEN.out i (Nat.le_refl _)
      go_wp2
      go_ret
      exact ⟨_, _, _, rfl, hI.out.1, hI.out.2, HL2.out⟩
theorem num10 {w : World} : Num (w.alloc (.cells #[.int .u64 10] 28)) (.slice (some ⟨w.heap.size, 0, none⟩) 1 1) 10 1 :=
  ⟨_, _, _, [10], rfl, Rd.lit1 w 10, All.cons (by rw [W_eq]; omega) All.nil, by simp [val], Nat.le_refl _⟩
set_option maxHeartbeats 400000 in
theorem ten6_ok {N : Nat} {n' : Int} {w : World} (en : n' = (N : Int)) (hN : N ≤ 400) : Calls Tryz.prog 7 #[.int .i64 n'] w (GNE w (10 ^ N) (N + 1) 0) := by
  subst en
  have d1 : decide ((N : Int) < 0) = false := by simp
  have d2 : decide ((10000 : Int) < (N : Int)) = false := by simp; omega
  go_enter Tryz.func7, Tryz.ntmps7
  go_wp2_with fail
  refine (word5_any (x := 10) (x' := 10) rfl (by omega)).mono ?_
  rintro e w1 ⟨A_t, n_t, c_t, rfl, o_t, hb1, l_t⟩
  go_wp2_with fail
  refine (pow5_any (N := N) (o_t.num l_t) rfl (by omega) (by omega) (by omega)).mono ?_
  rintro e w2 ⟨A_p, n_p, c_p, rfl, o_p, hb2, l_p⟩
  have HR : Hid (Own .u64 28 w.heap.size w2 A_p n_p c_p (dg W (10 ^ N)) ∧ Below w.heap.size w w2 ∧ n_p ≤ N + 1) := ⟨(o_p.mono hb1.size), (bt hb1 hb2), by omega⟩
  go_wp2
  go_ret2
  exact ⟨_, _, _, rfl, HR.out⟩
set_option maxHeartbeats 400000 in
theorem rten_ok {N : Nat} {n' : Int} {w : World} (en : n' = (N : Int)) (hN : N ≤ 400) : Calls Tryz.prog 10 #[.int .i64 n'] w (GNE w (10 ^ N) (N + 1) 0) := by
  subst en
  have d1 : decide ((N : Int) < 0) = false := by simp
  have d2 : decide ((10000 : Int) < (N : Int)) = false := by simp; omega
  have C := Lib.hid (pow_any (N := N) (n' := (N : Int)) (num10 (w := w)) rfl (by omega) (by omega) (by omega))
  go_enter Tryz.func10, Tryz.ntmps10
  go_wp2_with fail
  refine C.out.mono ?_
  rintro e w1 ⟨A, n, c, rfl, ho, hb, hl⟩
  have HR : Hid (Own .u64 28 w.heap.size w1 A n c (dg W (10 ^ N)) ∧ Below w.heap.size w w1 ∧ n ≤ N + 1) := ⟨ho.mono (by simp), bt (belowA _ _) hb, by omega⟩
  clear ho hb
  go_wp2
  go_ret2
  exact ⟨_, _, _, rfl, HR.out⟩
set_option maxHeartbeats 400000 in
theorem ten6_neg {z : Int} {w : World} (h : z < 0) : Calls Tryz.prog 7 #[.int .i64 z] w (Keeps (.tuple #[.slice none 0 0, .int .i64 3]) w) := by
  have d1 : decide (z < 0) = true := by simp; omega
  go_enter Tryz.func7, Tryz.ntmps7
  go_wp2
  go_ret2
  exact ⟨rfl, Below.refl _ _⟩
set_option maxHeartbeats 400000 in
theorem rten_neg {z : Int} {w : World} (h : z < 0) : Calls Tryz.prog 10 #[.int .i64 z] w (Keeps (.tuple #[.slice none 0 0, .int .i64 3]) w) := by
  have d1 : decide (z < 0) = true := by simp; omega
  go_enter Tryz.func10, Tryz.ntmps10
  go_wp2
  go_ret2
  exact ⟨rfl, Below.refl _ _⟩
set_option maxHeartbeats 400000 in
theorem ten6_big {z : Int} {w : World} (h : 10000 < z) : Calls Tryz.prog 7 #[.int .i64 z] w (Keeps (.tuple #[.slice none 0 0, .int .i64 13]) w) := by
  obtain ⟨d1, d2⟩ : decide (z < 0) = false ∧ decide (10000 < z) = true := by constructor <;> simp <;> omega
  go_enter Tryz.func7, Tryz.ntmps7
  go_wp2
  go_ret2
  exact ⟨rfl, Below.refl _ _⟩
set_option maxHeartbeats 400000 in
theorem rten_big {z : Int} {w : World} (h : 10000 < z) : Calls Tryz.prog 10 #[.int .i64 z] w (Keeps (.tuple #[.slice none 0 0, .int .i64 13]) w) := by
  obtain ⟨d1, d2⟩ : decide (z < 0) = false ∧ decide (10000 < z) = true := by constructor <;> simp <;> omega
  go_enter Tryz.func10, Tryz.ntmps10
  go_wp2
  go_ret2
  exact ⟨rfl, Below.refl _ _⟩
end Go.Proofs.YtajoafcondgelaaGreatDoor
