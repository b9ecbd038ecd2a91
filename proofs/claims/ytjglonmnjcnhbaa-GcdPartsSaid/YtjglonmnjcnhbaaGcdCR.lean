/-
  Walks: gcd.Inverse, gcd.Count. How often a number divides another. The document's roots and counts (surdref05): Two, below, Pow, Root, Sqrt, Count.
-/
import Derived.Test.YtjglonmnjcnhbaaIntR
namespace Go.Proofs.Ytjglonmnjcnhbaa
open Go.RowKit
set_option linter.unusedVariables false

/-- an inverse, or none -/
def GInv (w : World) (a m L : Nat) (e : Ending) (w' : World) : Prop :=
  ∃ A n c er, e = .returned (.tuple #[.slice A n c, .int .i64 er]) ∧ Below w.heap.size w w' ∧ n ≤ L ∧
    Hid ((0 < m ∧ Nat.gcd a m = 1 ∧ er = 0 ∧ ∃ x, x < m ∧ Cong m a 1 x ∧ Own .u64 54 w.heap.size w' A n c (dg W x)) ∨ (n = 0 ∧ A = none ∧ c = 0 ∧ (m = 0 ∧ er = 1 ∨ 0 < m ∧ Nat.gcd a m ≠ 1 ∧ er = 4)))
set_option maxHeartbeats 1000000 in
theorem ginverse_any {v u : Value} {a m L K : Nat} {w : World} (h : Num w v a L) (h' : Num w u m K) (hL : L ≤ 268435456) (hK : K ≤ 268435456) :
    Calls Try.prog 17 #[v, u] w (GInv w a m K) := by
  have H := Lib.hid h
  have H' := Lib.hid h'
  obtain ⟨_, _, _, _, rfl, _⟩ := id h
  obtain ⟨_, _, _, _, rfl, _⟩ := id h'
  clear h h'
  rcases Nat.eq_zero_or_pos m with hm | hm
  · have HM := Lib.hid hm
    clear hm
    go_enter Try.func17, Try.ntmps17
    go_wp2_with fail
    refine (isZero_yes H'.out HM.out (by omega)).mono ?_
    rintro e w1 ⟨rfl, hb1⟩
    go_wp2
    go_ret2
    exact ⟨_, _, _, _, rfl, hb1, Nat.zero_le _, .inr ⟨rfl, rfl, rfl, .inl ⟨HM.out, rfl⟩⟩⟩
  · have HM := Lib.hid hm
    clear hm
    obtain ⟨bb, hbb⟩ : ∃ bb, bb = decide (Nat.gcd a m = 1) := ⟨_, rfl⟩
    have CO : Hid (∀ (w : World) (v : Value), Num w v (Nat.gcd a m) K → Calls Try.prog 45 #[v] w (Keeps (.bool bb) w)) := fun w v h => by rw [hbb]; exact isOne_any h (by omega)
    have HBB := Lib.hid hbb
    clear hbb
    go_enter Try.func17, Try.ntmps17
    go_wp2_with fail
    refine (isZero_no H'.out HM.out (by omega)).mono ?_
    rintro e w2 ⟨rfl, hb2⟩
    have HBF := Lib.hid hb2
    go_wp2_with fail
    refine (factor_any (H.out.below hb2) (H'.out.below hb2) HM.out (by omega) (by omega)).mono ?_
    rintro e wf ⟨s, ⟨hs, hc⟩, A_g, n_g, c_g, A_x, n_x, c_x, rfl, o_g, o_x, hbf, l_g, l_x⟩
    have HF := Lib.hid (And.intro hs hc)
    clear hs hc
    have HX := Lib.hid (o_x.mono HBF.out.size)
    clear o_x
    rcases bb with _ | _
    · skip
      go_wp2_with fail
      refine (CO.out _ _ (o_g.num l_g)).mono ?_
      rintro e w3 ⟨rfl, hb3⟩
      go_wp2
      go_ret2
      exact ⟨_, _, _, _, rfl, (bt (bt hb2 hbf) hb3), Nat.zero_le _, .inr ⟨rfl, rfl, rfl, .inr ⟨HM.out, of_decide_eq_false HBB.out.symm, rfl⟩⟩⟩
    · skip
      go_wp2_with fail
      refine (CO.out _ _ (o_g.num l_g)).mono ?_
      rintro e w4 ⟨rfl, hb4⟩
      have HX2 := Lib.hid (HX.out.below hb4)
      go_wp2
      go_ret2
      have hg : Nat.gcd a m = 1 := of_decide_eq_true HBB.out.symm
      have h1 := HF.out.1
      have h2 := HF.out.2
      rw [hg] at h1 h2
      rw [Nat.div_one] at h1
      exact ⟨_, _, _, _, rfl, (bt (bt hb2 hbf) hb4), l_x, .inl ⟨HM.out, hg, rfl, s, h1, h2, HX2.out⟩⟩
/-- how often: b^n * s = a, and b doesn't divide s -/
def CntOk (a b n s : Nat) : Prop := b ^ n * s = a ∧ s % b ≠ 0
theorem CntOk.uniq {a b n s n' s' : Nat} (h : CntOk a b n s) (h' : CntOk a b n' s') (hb : 2 ≤ b) : n = n' ∧ s = s' := by
  have key : ∀ {n s n' s' : Nat}, CntOk a b n s → CntOk a b n' s' → ¬ n < n' := by
    intro n s n' s' h h' hlt
    obtain ⟨k, rfl⟩ : ∃ k, n' = n + (k + 1) := ⟨n' - n - 1, by omega⟩
    have e : b ^ n * s = b ^ n * (b ^ (k + 1) * s') := by rw [h.1, ← h'.1, Nat.pow_add, Nat.mul_assoc]
    have e2 := Nat.eq_of_mul_eq_mul_left (Nat.pow_pos (by omega)) e
    apply h.2
    rw [e2, Nat.pow_succ, Nat.mul_comm (b ^ k), Nat.mul_assoc]
    exact Nat.mul_mod_right _ _
  have hn : n = n' := Nat.le_antisymm (Nat.le_of_not_lt (key h' h)) (Nat.le_of_not_lt (key h h'))
  subst hn
  refine ⟨rfl, Nat.eq_of_mul_eq_mul_left (Nat.pow_pos (by omega)) (h.1.trans h'.1.symm)⟩
theorem cnt_le {a b n s : Nat} (h : b ^ n * s = a) (hb : 2 ≤ b) (ha : 0 < a) : n ≤ nb a := by
  have hs : 0 < s := by
    rcases Nat.eq_zero_or_pos s with h0 | h0
    · subst h0; simp at h; omega
    · exact h0
  have h1 : b ^ n * 1 ≤ b ^ n * s := Nat.mul_le_mul_left _ hs
  have h2 : 2 ^ n ≤ b ^ n := Nat.pow_le_pow_left hb _
  have h3 := nb_lt a
  have := (Nat.pow_lt_pow_iff_right (show 1 < 2 by omega)).1 (show 2 ^ n < 2 ^ nb a by omega)
  omega
def GCnt (w : World) (a b L : Nat) (e : Ending) (w' : World) : Prop :=
  ∃ (n s : Nat) (A : Option Addr) (m c : Nat), e = .returned (.tuple #[.int .i64 (n : Int), .slice A m c, .int .i64 0]) ∧ CntOk a b n s ∧ Own .u64 54 w.heap.size w' A m c (dg W s) ∧ Below w.heap.size w w' ∧ m ≤ L ∧ n ≤ nb a
theorem gcount_zero {v u : Value} {a b L K : Nat} {w : World} (h : Num w v a L) (h' : Num w u b K) (ha : a = 0) (hL : L ≤ 17179869184) : Calls Try.prog 24 #[v, u] w (Keeps (.tuple #[.int .i64 0, .slice none 0 0, .int .i64 1]) w) := by
  have H := Lib.hid h
  have HA := Lib.hid ha
  obtain ⟨_, _, _, _, rfl, _⟩ := id h
  obtain ⟨_, _, _, _, rfl, _⟩ := id h'
  clear h h' ha
  go_enter Try.func24, Try.ntmps24
  go_wp2_with fail
  refine (isZero_yes H.out HA.out (by omega)).mono ?_
  rintro e w1 ⟨rfl, hb1⟩
  go_wp2
  go_ret3
  exact ⟨rfl, hb1⟩
theorem gcount_arg {v u : Value} {a b L K : Nat} {w : World} (h : Num w v a L) (h' : Num w u b K) (ha : 0 < a) (hb : b < 2) (hL : L ≤ 17179869184) (hK : K ≤ 17179869184) : Calls Try.prog 24 #[v, u] w (Keeps (.tuple #[.int .i64 0, .slice none 0 0, .int .i64 3]) w) := by
  have H := Lib.hid h
  have H' := Lib.hid h'
  have HA := Lib.hid ha
  obtain ⟨_, _, _, _, rfl, _⟩ := id h
  obtain ⟨_, _, _, _, rfl, _⟩ := id h'
  have hnb : nb b < 2 := by
    rcases (show b = 0 ∨ b = 1 by omega) with h0 | h0
    · rw [h0, nb_zero]; omega
    · rw [h0, nb_one]; omega
  clear h h' ha
  go_enter Try.func24, Try.ntmps24
  go_wp2_with fail
  refine (isZero_no H.out HA.out (by omega)).mono ?_
  rintro e w1 ⟨rfl, hb1⟩
  have C := Lib.hid (nbits_any (w := w1) (H'.out.below hb1) (by omega))
  have d1 : decide ((nb b : Int) < 2) = true := by simp; omega
  generalize nb b = z at *
  go_wp2_with fail
  refine (C.out).mono ?_
  rintro e w' ⟨rfl, rfl⟩
  go_wp2
  go_ret3
  exact ⟨rfl, hb1⟩
set_option maxHeartbeats 2000000 in
theorem gcount_any {v u : Value} {a b L K : Nat} {w : World} (h : Num w v a L) (h' : Num w u b K) (ha : 0 < a) (hb : 2 ≤ b) (hL : L ≤ 67108864) (hK : K ≤ 67108864) : Calls Try.prog 24 #[v, u] w (GCnt w a b L) := by
  have H := Lib.hid h
  have H' := Lib.hid h'
  have HA := Lib.hid ha
  have HB2 := Lib.hid hb
  have hnbL : nb a ≤ 64 * L := nb_W h.lt
  obtain ⟨_, _, _, _, rfl, _⟩ := id h
  obtain ⟨_, _, _, _, rfl, _⟩ := id h'
  have hnb := nb_two hb
  have HNB : Hid (∀ n s, b ^ n * s = a → n ≤ nb a) := fun n s e => cnt_le e hb ha
  clear h h' ha hb
  obtain ⟨Z, hZ⟩ : ∃ Z, Z = nb a := ⟨_, rfl⟩
  rw [← hZ] at hnbL HNB
  have HZ := Lib.hid hZ
  clear hZ
  go_enter Try.func24, Try.ntmps24
  go_wp2_with fail
  refine (isZero_no H.out HA.out (by omega)).mono ?_
  rintro e w1 ⟨rfl, hb1⟩
  have C := Lib.hid (nbits_any (w := w1) (H'.out.below hb1) (by omega))
  have d1 : decide ((nb b : Int) < 2) = false := by simp; omega
  generalize nb b = z at *
  go_wp2_with fail
  refine (C.out).mono ?_
  rintro e w' ⟨rfl, rfl⟩
  go_wp2_with fail
  refine (nnorm_any (H.out.below hb1) (by omega)).mono ?_
  rintro e w3 ⟨A_s, n_s, c_s, rfl, o_s, hb3, l_s⟩
  have HS := Lib.hid (And.intro (o_s.mono hb1.size) (bt hb1 hb3))
  clear o_s
  go_wp2
  go_loopw [7, 8] (fun nv lv wr => ∃ (n s : Nat) (A : Option Addr) (m c : Nat), Hid (b ^ n * s = a ∧ 0 < s ∧ Own .u64 54 w.heap.size wr A m c (dg W s) ∧ Below w.heap.size w wr) ∧ m ≤ L ∧ n ≤ Z ∧ nv = .int .i64 (n : Int) ∧ lv = .slice A m c) (fun _ lv wr => mval wr lv)
  case atStart => exact ⟨0, a, _, _, _, ⟨by simp, HA.out, HS.out.1, HS.out.2⟩, by omega, Nat.zero_le _, rfl, rfl⟩
  case round =>
    obtain ⟨n, s, A, m, c, hI, hm, hn, rfl, rfl⟩ := hrel
    obtain ⟨wo, hwo⟩ : ∃ wo : World, wo = wr := ⟨_, rfl⟩
    have HN := Lib.hid (hI.out.2.2.1.num hm)
    have HBB := Lib.hid (H'.out.below hI.out.2.2.2)
    have HB0 : Hid (0 < b) := by show _ < _; have := HB2.out; omega
    have CQ := Lib.hid (quo_any HN.out HBB.out HB0.out (by omega) (by omega))
    clear hwo
    go_wp2_with fail
    refine CQ.out.mono ?_
    rintro e w5 ⟨A_q, n_q, c_q, A_r, n_r, c_r, rfl, o_q, o_r, hb5, l_q, l_r⟩
    rcases Nat.eq_zero_or_pos (s % b) with h0 | h0
    · have hz : n_r = 0 := len_zero o_r h0
      have e : s = b * (s / b) := by have := Nat.mod_add_div s b; omega
      have hq0 : 0 < s / b := by
        rcases Nat.eq_zero_or_pos (s / b) with h1 | h1
        · rw [h1, Nat.mul_zero] at e; have := hI.out.2.1; omega
        · exact h1
      have e2 : b ^ (n + 1) * (s / b) = a := by rw [Nat.pow_succ, Nat.mul_assoc, ← e]; exact hI.out.1
      have hn2 := HNB.out _ _ e2
      have HNX : Hid (b ^ (n + 1) * (s / b) = a ∧ 0 < s / b ∧ Own .u64 54 w.heap.size w5 A_q n_q c_q (dg W (s / b)) ∧ Below w.heap.size w w5) := ⟨e2, hq0, o_q.mono hI.out.2.2.2.size, bt hI.out.2.2.2 hb5⟩
      have HMS : Hid (mval w5 (.slice A_q n_q c_q) < mval wr (.slice A m c)) := by
        show _ < _
        rw [mval_num (o_q.num l_q), mval_num HN.out]
        exact Nat.div_lt_self hI.out.2.1 (by have := HB2.out; omega)
      subst hz
      clear h0 e e2 hq0 o_q o_r
      go_wp2
      go_roundw
      case rel => exact ⟨n + 1, _, _, _, _, HNX, by omega, hn2, by go_num, rfl⟩
      case measure => exact HMS.out
    · have hz := len_pos o_r h0
      have HC : Hid (CntOk a b n s ∧ Own .u64 54 w.heap.size w5 A m c (dg W s) ∧ Below w.heap.size w w5) := ⟨⟨hI.out.1, by omega⟩, hI.out.2.2.1.below hb5, bt hI.out.2.2.2 hb5⟩
      have hz2 : (0 : Int) < (n_r : Int) := by omega
      clear h0 o_q o_r
      go_wp2
      go_ret3
      exact ⟨n, s, _, _, _, rfl, HC.out.1, HC.out.2.1, HC.out.2.2, hm, by rw [← HZ.out]; exact hn⟩
end Go.Proofs.Ytjglonmnjcnhbaa
namespace Go.Proofs.Ytjglonmnjcnhbaa
open Go.RowKit
set_option linter.unusedVariables false

theorem val_topD (n p : Nat) : val D ((List.replicate (n + 1) 0).set n p) = D ^ n * p := by
  have e : (List.replicate (n + 1) 0).set n p = List.replicate n 0 ++ [p] := by
    rw [List.replicate_succ', List.set_append_right _ _ (by simp)]
    simp
  rw [e, val_append, val_replicate, List.length_replicate]
  simp [val]
theorem nth_setrep (n p : Nat) : nth ((List.replicate (n + 1) 0).set n p) n = p := by
  simp [nth]
theorem two16_split (i : Nat) : D ^ (i / 16) * 2 ^ (i % 16) = 2 ^ i := by
  rw [show D = 2 ^ 16 from rfl, ← Nat.pow_mul, ← Nat.pow_add]
  congr 1; omega
theorem cmp_eq (x y : Nat) : (cmpN x y == 0) = decide (x = y) := by
  unfold cmpN; split
  · rw [decide_eq_false (by omega)]; decide
  · split
    · rw [decide_eq_false (by omega)]; decide
    · rw [decide_eq_true (by omega)]; decide
theorem cmp_gt (x y : Nat) : decide ((0 : Int) < cmpN x y) = decide (y < x) := by
  unfold cmpN; split
  · rw [decide_eq_false (p := y < x) (by omega)]; decide
  · split
    · rw [decide_eq_true (p := y < x) (by omega)]; decide
    · rw [decide_eq_false (p := y < x) (by omega)]; decide
theorem cmp_leq (x y : Nat) : decide (cmpN x y ≤ 0) = decide (x ≤ y) := by
  unfold cmpN; split
  · rw [decide_eq_true (p := x ≤ y) (by omega)]; decide
  · split
    · rw [decide_eq_false (p := x ≤ y) (by omega)]; decide
    · rw [decide_eq_true (p := x ≤ y) (by omega)]; decide
theorem pow_stop {s i N a : Nat} (h : a < s ^ (i + 1)) (hi : i + 1 ≤ N) : ¬ s ^ N ≤ a := by
  rcases Nat.eq_zero_or_pos s with h0 | h0
  · subst h0; rw [Nat.zero_pow (by omega)] at h; omega
  · have := Nat.pow_le_pow_right h0 hi; omega
set_option maxHeartbeats 1000000 in
theorem pow5_any {v : Value} {x L N : Nat} {n' : Int} {w : World} (h : Num w v x L) (en : n' = (N : Int)) (hN : N ≤ 10000) (hLN : L * N ≤ 1073741824) (hL : L ≤ 1073741824) :
    Calls Try.prog 22 #[v, .int .i64 n'] w (GN w (x ^ N) (L * N + 1)) := by
  subst en
  have H := Lib.hid h
  have HX := Lib.hid h.lt
  have C1 := Lib.hid (word5_any (w := w) (x := 1) (x' := 1) rfl (by omega))
  have HLN := Lib.hid hLN
  obtain ⟨_, _, _, _, rfl, _⟩ := id h
  have hlen : ∀ i, i ≤ N → (dg W (x ^ i)).length ≤ L * N + 1 := fun i hi => by
    refine dg_len W_gt ?_
    have h1 : x ^ i ≤ (W ^ L) ^ i := Nat.pow_le_pow_left (Nat.le_of_lt HX.out) i
    rw [← Nat.pow_mul] at h1
    have h2 : W ^ (L * i) ≤ W ^ (L * N) := Nat.pow_le_pow_right W_pos (Nat.mul_le_mul_left _ hi)
    have h3 : W ^ (L * N) < W ^ (L * N + 1) := Nat.pow_lt_pow_right W_gt (by omega)
    omega
  have HLEN := Lib.hid hlen
  clear h hlen hLN
  go_enter Try.func22, Try.ntmps22
  go_wp2_with fail
  refine C1.out.mono ?_
  rintro e w1 ⟨A1, n1, c1, rfl, ho1, hb1, hl1⟩
  have HO := Lib.hid (And.intro ho1 hb1)
  clear ho1 hb1
  go_wp2
  go_loopw [5, 6] (fun nv iv wr => ∃ (i n c : Nat) (A : Option Addr), Hid (Own .u64 54 w.heap.size wr A n c (dg W (x ^ i)) ∧ Below w.heap.size w wr) ∧ i ≤ N ∧ nv = .slice A n c ∧ iv = .int .i64 (i : Int)) (fun _ iv _ => N - (intOf iv).toNat)
  case atStart => exact ⟨0, _, _, _, ⟨by rw [Nat.pow_zero]; exact HO.out.1, HO.out.2⟩, Nat.zero_le _, rfl, rfl⟩
  case round =>
    obtain ⟨i, n, c, A, hI, hi, rfl, rfl⟩ := hrel
    have hn : n ≤ 2147483648 := by have := HLEN.out i hi; rw [hI.out.1.len] at this; have := HLN.out; omega
    by_cases hlt : i < N
    · have CT := Lib.hid (times5_any (hI.out.1.num (Nat.le_refl _)) (H.out.below hI.out.2) (by omega) (by omega))
      rw [← Nat.pow_succ] at CT
      go_wp2_with fail
      refine CT.out.mono ?_
      rintro e w3 ⟨A3, n3, c3, rfl, ho3, hb3, hl3⟩
      have HN : Hid (Own .u64 54 w.heap.size w3 A3 n3 c3 (dg W (x ^ (i + 1))) ∧ Below w.heap.size w w3) := ⟨ho3.mono hI.out.2.size, bt hI.out.2 hb3⟩
      clear ho3 hb3
      go_wp2
      go_roundw
      case rel => exact ⟨i + 1, _, _, _, HN, hlt, rfl, by go_num⟩
      case measure => simp [intOf]; omega
    · obtain rfl : i = N := by omega
      have HL2 : Hid (n ≤ L * i + 1) := by show _ ≤ _; rw [← hI.out.1.len]; exact HLEN.out i (Nat.le_refl _)
      go_wp2
      go_ret
      exact ⟨_, _, _, rfl, hI.out.1, hI.out.2, HL2.out⟩
theorem num_one_le {v : Value} {x L : Nat} {w : World} (h : Num w v x L) (hx : 0 < x) : 1 ≤ L := by
  have := h.lt
  rcases Nat.eq_zero_or_pos L with h0 | h0
  · rw [h0, Nat.pow_zero] at this; omega
  · exact h0
theorem cnt_exists {a b : Nat} (ha : 0 < a) (hb : 2 ≤ b) : ∃ n s, CntOk a b n s := by
  induction a using Nat.strongRecOn with
  | _ a ih =>
    by_cases h : a % b = 0
    · have e : a = b * (a / b) := by have := Nat.mod_add_div a b; omega
      have h1 : 0 < a / b := by
        rcases Nat.eq_zero_or_pos (a / b) with h1 | h1
        · rw [h1, Nat.mul_zero] at e; omega
        · exact h1
      obtain ⟨n, s, h2, h3⟩ := ih (a / b) (Nat.div_lt_self ha hb) h1
      exact ⟨n + 1, s, by rw [Nat.pow_succ, Nat.mul_comm _ b, Nat.mul_assoc, h2, ← e], h3⟩
    · exact ⟨0, a, by simp, h⟩
/-- a slice to read, a Bool (a count), an error's number -/
def GRx (w : World) (xs : List Nat) (ex : Bool) (er : Int) (L : Nat) (e : Ending) (w' : World) : Prop :=
  ∃ A n c, e = .returned (.tuple #[.slice A n c, .bool ex, .int .i64 er]) ∧ Below w.heap.size w w' ∧ n ≤ L ∧ Rd .u64 w' A n c xs
def GCx (w : World) (xs : List Nat) (cn er : Int) (L : Nat) (e : Ending) (w' : World) : Prop :=
  ∃ A n c, e = .returned (.tuple #[.int .i64 cn, .slice A n c, .int .i64 er]) ∧ Below w.heap.size w w' ∧ n ≤ L ∧ Rd .u64 w' A n c xs
theorem rd_none {k : IntKind} {w : World} : Rd k w none 0 0 [] := Rd.nil
end Go.Proofs.Ytjglonmnjcnhbaa
