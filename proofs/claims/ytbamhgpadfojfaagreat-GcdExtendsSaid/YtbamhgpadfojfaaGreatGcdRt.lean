/-
  The document's roots and counts (surdref05): Two, below, Pow, Root, Sqrt, Count.
-/
import Derived.Test.YtbamhgpadfojfaaGreatGcdC
namespace Go.Proofs.YtbamhgpadfojfaaGreat
open Go.RowKit
set_option linter.unusedVariables false

theorem val_topD (n p : Nat) : val D ((List.replicate (n + 1) 0).set n p) = D ^ n * p := by
  have e : (List.replicate (n + 1) 0).set n p = List.replicate n 0 ++ [p] := by
    rw [List.replicate_succ', List.set_append_right _ _ (by simp)]
    simp
  rw [e, val_append, val_replicate, List.length_replicate]
  simp [val]
theorem nth_setrep (n p : Nat) : nth ((List.replicate (n + 1) 0).set n p) n = p := by
  simp [nth]
theorem two16_split (i : Nat) : D ^ (i / 16) * 2 ^ (i % 16) = 2 ^ i := by
  rw [show D = 2 ^ 16 from rfl, ← Nat.pow_mul, ← Nat.pow_add]
  congr 1; omega
set_option maxHeartbeats 2000000 in
theorem two5_any {i : Nat} {i' : Int} {w : World} (ei : i' = (i : Int)) (hi : i ≤ 4294967296) : Calls Tryz.prog 44 #[.int .i64 i'] w (GN w (2 ^ i) (i / 64 + 1)) := by
  subst ei
  have HE := Lib.hid elI
  have q1 := lay (show (i : Int) / 16 = ((i / 16 : Nat) : Int) by omega)
  have q2 := lay (show (i : Int) % 16 = ((i % 16 : Nat) : Int) by omega)
  have q3 := lay (show (i : Int).tmod 16 = ((i % 16 : Nat) : Int) by rw [Int.tmod_eq_emod_of_nonneg (by omega)]; omega)
  have q4 := lay (show (i : Int).tdiv 16 = ((i / 16 : Nat) : Int) by rw [Int.tdiv_eq_ediv_of_nonneg (by omega)]; omega)
  have hr : i % 16 < 16 := by omega
  have hws : i / 16 ≤ 268435456 := by omega
  have HV : Hid (D ^ (i / 16) * 2 ^ (i % 16) = 2 ^ i) := two16_split i
  have hlen : (i / 16 + 1 + 3) / 4 ≤ i / 64 + 1 := by omega
  generalize i / 64 + 1 = LL at *
  generalize i / 16 = ws at *
  generalize i % 16 = r at *
  generalize 2 ^ i = X at *
  go_enter Tryz.func44, Tryz.ntmps44
  have i0 : (0 : Int) ≤ (ws : Int) := by omega
  have i1 : (ws : Int) < (ws : Int) + 1 := by omega
  go_wp2_with (at_make; refine wpList_mk rfl (.tmp 7) (.tmp 7) rfl HE.out w.heap.size (ws + 1) rfl rfl (by push_cast; rfl) (by push_cast; rfl) (by omega) (Nat.le_refl _) ?_; intro w2 ho2 hg2 hb2; have hfr := ho2.frozen (i := ws); have hcs := ho2.cell (i := ws) (by omega); generalize nth (List.replicate (ws + 1) 0) ws = old at hcs; have HO := Lib.hid (And.intro (ho2.stored (i := ws) (x := 1)) (hb2.setCell (p := ⟨w.heap.size, ws, none⟩) (Nat.le_refl _) (.int .i64 ((1 : Nat) : Int)))); clear ho2 hb2 hg2)
  go_loopw [4] (fun iv wr => ∃ j p : Nat, Hid (p = 2 ^ j ∧ Own .i64 3 w.heap.size wr (some ⟨w.heap.size, 0, none⟩) (ws + 1) (ws + 1) ((List.replicate (ws + 1) 0).set ws p) ∧ Below w.heap.size w wr) ∧ j ≤ r ∧ iv = .int .i64 (j : Int)) (fun iv _ => r - (intOf iv).toNat)
  case atStart => exact ⟨0, 1, ⟨by simp, HO.out.1, HO.out.2⟩, Nat.zero_le _, rfl⟩
  case round =>
    obtain ⟨j, p, hI, hj, rfl⟩ := hrel
    by_cases hlt : j < r
    · have hp : p ≤ 32768 := by
        rw [hI.out.1]
        have : 2 ^ j ≤ 2 ^ 15 := Nat.pow_le_pow_right (by omega) (by omega)
        omega
      have hcell := hI.out.2.1.cell (i := ws) (by omega)
      rw [nth_setrep] at hcell
      have hfr := hI.out.2.1.frozen (i := ws)
      have HNX : Hid (p * 2 = 2 ^ (j + 1) ∧ Own .i64 3 w.heap.size (wr.setCell ⟨w.heap.size, ws, none⟩ (.int .i64 ((p : Int) * 2))) (some ⟨w.heap.size, 0, none⟩) (ws + 1) (ws + 1) ((List.replicate (ws + 1) 0).set ws (p * 2)) ∧ Below w.heap.size w (wr.setCell ⟨w.heap.size, ws, none⟩ (.int .i64 ((p : Int) * 2)))) := by
        refine ⟨by rw [hI.out.1, Nat.pow_succ], ?_, hI.out.2.2.setCell (p := ⟨w.heap.size, ws, none⟩) (Nat.le_refl _) _⟩
        have := hI.out.2.1.stored (i := ws) (x := p * 2)
        rw [List.set_set, Int.natCast_mul] at this
        exact this
      go_wp2
      go_roundw
      case rel => exact ⟨j + 1, p * 2, HNX, by omega, by go_num⟩
      case measure => simp [intOf]; omega
    · obtain rfl : j = r := by omega
      have HD : Hid (Dgs wr (.slice (some ⟨w.heap.size, 0, none⟩) (ws + 1) (ws + 1)) X (ws + 1)) := ⟨_, _, _, _, rfl, hI.out.2.1.rd, (All.replicate (by decide)).set (by
        rw [hI.out.1]
        exact (Nat.pow_lt_pow_iff_right (a := 2) (n := j) (m := 16) (by omega)).2 hr) _, by rw [val_topD, hI.out.1]; exact HV.out, Nat.le_refl _⟩
      go_wp2_with fail
      refine (number5_any HD.out (by omega)).mono ?_
      rintro e w3 ⟨A3, n3, c3, rfl, ho3, hb3, hl3⟩
      have HR : Hid (Own .u64 49 w.heap.size w3 A3 n3 c3 (dg W X) ∧ Below w.heap.size w w3) := ⟨ho3.mono hI.out.2.2.size, bt hI.out.2.2 hb3⟩
      clear ho3 hb3
      go_wp2
      go_ret
      exact ⟨_, _, _, rfl, HR.out.1, HR.out.2, by omega⟩
theorem cmp_eq (x y : Nat) : (cmpN x y == 0) = decide (x = y) := by
  unfold cmpN; split
  · rw [decide_eq_false (by omega)]; decide
  · split
    · rw [decide_eq_false (by omega)]; decide
    · rw [decide_eq_true (by omega)]; decide
theorem cmp_gt (x y : Nat) : decide ((0 : Int) < cmpN x y) = decide (y < x) := by
  unfold cmpN; split
  · rw [decide_eq_false (p := y < x) (by omega)]; decide
  · split
    · rw [decide_eq_true (p := y < x) (by omega)]; decide
    · rw [decide_eq_false (p := y < x) (by omega)]; decide
theorem cmp_leq (x y : Nat) : decide (cmpN x y ≤ 0) = decide (x ≤ y) := by
  unfold cmpN; split
  · rw [decide_eq_true (p := x ≤ y) (by omega)]; decide
  · split
    · rw [decide_eq_false (p := x ≤ y) (by omega)]; decide
    · rw [decide_eq_true (p := x ≤ y) (by omega)]; decide
theorem pow_stop {s i N a : Nat} (h : a < s ^ (i + 1)) (hi : i + 1 ≤ N) : ¬ s ^ N ≤ a := by
  rcases Nat.eq_zero_or_pos s with h0 | h0
  · subst h0; rw [Nat.zero_pow (by omega)] at h; omega
  · have := Nat.pow_le_pow_right h0 hi; omega
set_option maxHeartbeats 2000000 in
theorem below5_any {v u : Value} {s a L M N : Nat} {n' : Int} {w : World} (h : Num w v s L) (h' : Num w u a M) (en : n' = (N : Int)) (hN1 : 1 ≤ N) (hN : N ≤ 4294967296) (hL : L ≤ 268435456) (hM : M ≤ 268435456) :
    Calls Tryz.prog 45 #[v, u, .int .i64 n'] w (Keeps (.bool (decide (s ^ N ≤ a))) w) := by
  subst en
  have H := Lib.hid h
  have H' := Lib.hid h'
  have HLT := Lib.hid h'.lt
  obtain ⟨_, _, _, _, rfl, _⟩ := id h
  obtain ⟨_, _, _, _, rfl, _⟩ := id h'
  clear h h'
  go_enter Tryz.func45, Tryz.ntmps45
  go_wp2_with fail
  refine (word5_any (x := 1) (x' := 1) rfl (by omega)).mono ?_
  rintro e w1 ⟨A_p, n_p, c_p, rfl, o_p, hb1, l_p⟩
  have HP := Lib.hid (And.intro o_p hb1)
  clear o_p
  go_wp2
  go_loopw [7, 8] (fun pv iv wr => ∃ (i : Nat) (A : Option Addr) (m c : Nat), Hid (Own .u64 49 w.heap.size wr A m c (dg W (s ^ i)) ∧ Below w.heap.size w wr ∧ (i = 0 ∨ s ^ i ≤ a)) ∧ i ≤ N ∧ m ≤ M + 1 ∧ pv = .slice A m c ∧ iv = .int .i64 (i : Int)) (fun _ iv _ => N - (intOf iv).toNat)
  case atStart => exact ⟨0, _, _, _, ⟨HP.out.1, HP.out.2, .inl rfl⟩, Nat.zero_le _, by omega, rfl, rfl⟩
  case round =>
    obtain ⟨i, A, m, c, hI, hi, hm, rfl, rfl⟩ := hrel
    by_cases hlt : i < N
    · have HNA := Lib.hid (hI.out.1.num hm)
      have CT := Lib.hid (times5_any HNA.out (H.out.below hI.out.2.1) (by omega) (by omega))
      rw [← Nat.pow_succ] at CT
      go_wp2_with fail
      refine CT.out.mono ?_
      rintro e w3 ⟨A3, n3, c3, rfl, ho3, hb3, hl3⟩
      have HB3 := Lib.hid (bt hI.out.2.1 hb3)
      have HO3 := Lib.hid (ho3.mono hI.out.2.1.size)
      have CC := Lib.hid (cmp5_any (w := w3) (ho3.num hl3) (H'.out.below HB3.out) (by omega) (by omega))
      clear ho3 hb3
      rcases Nat.lt_or_ge a (s ^ (i + 1)) with hc | hc
      · have HF : Hid (decide (s ^ N ≤ a) = false) := decide_eq_false (pow_stop hc hlt)
        obtain ⟨z, hz⟩ : ∃ z, z = cmpN (s ^ (i + 1)) a := ⟨_, rfl⟩
        have d0 : decide ((0 : Int) < z) = true := by rw [hz, cmp_gt]; simpa using hc
        rw [← hz] at CC
        clear hz hc
        go_wp2_with fail
        refine CC.out.mono ?_
        rintro e w4 ⟨rfl, hb4⟩
        have HB4 := Lib.hid (bt HB3.out hb4)
        clear hb4
        go_wp2
        go_ret
        exact ⟨by rw [HF.out]; rfl, HB4.out⟩
      · obtain ⟨z, hz⟩ : ∃ z, z = cmpN (s ^ (i + 1)) a := ⟨_, rfl⟩
        have d0 : decide ((0 : Int) < z) = false := by rw [hz, cmp_gt]; simpa using hc
        rw [← hz] at CC
        have hl : n3 ≤ M + 1 := by
          rw [← HO3.out.len]
          refine dgl (Nat.lt_of_le_of_lt hc (Nat.lt_of_lt_of_le HLT.out (Nat.pow_le_pow_right W_pos (by omega))))
        have HCC := Lib.hid hc
        clear hz hc
        go_wp2_with fail
        refine CC.out.mono ?_
        rintro e w4 ⟨rfl, hb4⟩
        have HNX : Hid (Own .u64 49 w.heap.size w4 A3 n3 c3 (dg W (s ^ (i + 1))) ∧ Below w.heap.size w w4 ∧ (i + 1 = 0 ∨ s ^ (i + 1) ≤ a)) := ⟨HO3.out.below hb4, bt HB3.out hb4, .inr HCC.out⟩
        clear hb4
        go_wp2
        go_roundw
        case rel => exact ⟨i + 1, _, _, _, HNX, hlt, hl, rfl, by go_num⟩
        case measure => simp [intOf]; omega
    · obtain rfl : i = N := by omega
      have HF : Hid (decide (s ^ i ≤ a) = true) := decide_eq_true (hI.out.2.2.resolve_left (by omega))
      go_wp2
      go_ret
      exact ⟨by rw [HF.out]; rfl, hI.out.2.1⟩
set_option maxHeartbeats 1000000 in
theorem pow5_any {v : Value} {x L N : Nat} {n' : Int} {w : World} (h : Num w v x L) (en : n' = (N : Int)) (hN : N ≤ 10000) (hLN : L * N ≤ 1073741824) (hL : L ≤ 1073741824) :
    Calls Tryz.prog 46 #[v, .int .i64 n'] w (GN w (x ^ N) (L * N + 1)) := by
  subst en
  have H := Lib.hid h
  have HX := Lib.hid h.lt
  have C1 := Lib.hid (word5_any (w := w) (x := 1) (x' := 1) rfl (by omega))
  have HLN := Lib.hid hLN
  obtain ⟨_, _, _, _, rfl, _⟩ := id h
  have hlen : ∀ i, i ≤ N → (dg W (x ^ i)).length ≤ L * N + 1 := fun i hi => by
    refine dg_len W_gt ?_
    have h1 : x ^ i ≤ (W ^ L) ^ i := Nat.pow_le_pow_left (Nat.le_of_lt HX.out) i
    rw [← Nat.pow_mul] at h1
    have h2 : W ^ (L * i) ≤ W ^ (L * N) := Nat.pow_le_pow_right W_pos (Nat.mul_le_mul_left _ hi)
    have h3 : W ^ (L * N) < W ^ (L * N + 1) := Nat.pow_lt_pow_right W_gt (by omega)
    omega
  have HLEN := Lib.hid hlen
  clear h hlen hLN
  go_enter Tryz.func46, Tryz.ntmps46
  go_wp2_with fail
  refine C1.out.mono ?_
  rintro e w1 ⟨A1, n1, c1, rfl, ho1, hb1, hl1⟩
  have HO := Lib.hid (And.intro ho1 hb1)
  clear ho1 hb1
  go_wp2
  go_loopw [5, 6] (fun nv iv wr => ∃ (i n c : Nat) (A : Option Addr), Hid (Own .u64 49 w.heap.size wr A n c (dg W (x ^ i)) ∧ Below w.heap.size w wr) ∧ i ≤ N ∧ nv = .slice A n c ∧ iv = .int .i64 (i : Int)) (fun _ iv _ => N - (intOf iv).toNat)
  case atStart => exact ⟨0, _, _, _, ⟨by rw [Nat.pow_zero]; exact HO.out.1, HO.out.2⟩, Nat.zero_le _, rfl, rfl⟩
  case round =>
    obtain ⟨i, n, c, A, hI, hi, rfl, rfl⟩ := hrel
    have hn : n ≤ 2147483648 := by have := HLEN.out i hi; rw [hI.out.1.len] at this; have := HLN.out; omega
    by_cases hlt : i < N
    · have CT := Lib.hid (times5_any (hI.out.1.num (Nat.le_refl _)) (H.out.below hI.out.2) (by omega) (by omega))
      rw [← Nat.pow_succ] at CT
      go_wp2_with fail
      refine CT.out.mono ?_
      rintro e w3 ⟨A3, n3, c3, rfl, ho3, hb3, hl3⟩
      have HN : Hid (Own .u64 49 w.heap.size w3 A3 n3 c3 (dg W (x ^ (i + 1))) ∧ Below w.heap.size w w3) := ⟨ho3.mono hI.out.2.size, bt hI.out.2 hb3⟩
      clear ho3 hb3
      go_wp2
      go_roundw
      case rel => exact ⟨i + 1, _, _, _, HN, hlt, rfl, by go_num⟩
      case measure => simp [intOf]; omega
    · obtain rfl : i = N := by omega
      have HL2 : Hid (n ≤ L * i + 1) := by show _ ≤ _; rw [← hI.out.1.len]; exact HLEN.out i (Nat.le_refl _)
      go_wp2
      go_ret
      exact ⟨_, _, _, rfl, hI.out.1, hI.out.2, HL2.out⟩
theorem num_one_le {v : Value} {x L : Nat} {w : World} (h : Num w v x L) (hx : 0 < x) : 1 ≤ L := by
  have := h.lt
  rcases Nat.eq_zero_or_pos L with h0 | h0
  · rw [h0, Nat.pow_zero] at this; omega
  · exact h0
theorem root5_bad {v : Value} {z : Int} {w : World} (hz : z < 1) : Calls Tryz.prog 12 #[v, .int .i64 z] w (Keeps (.tuple #[.slice none 0 0, .bool false, .int .i64 3]) w) := by
  have d1 : decide (z < 1) = true := by simpa using hz
  go_enter Tryz.func12, Tryz.ntmps12
  go_wp2
  go_ret3
  exact ⟨rfl, Below.refl _ _⟩
set_option maxHeartbeats 2000000 in
theorem root5_few {v : Value} {x L N : Nat} {w : World} (h : Num w v x L) (hN : 1 ≤ N) (hb : nb x < N) (hL1 : 1 ≤ L) (hL : L ≤ 67108864) : Calls Tryz.prog 12 #[v, .int .i64 (N : Int)] w (GRt w N x L) := by
  have H := Lib.hid h
  obtain ⟨_, _, _, _, rfl, _⟩ := id h
  have d1 : decide ((N : Int) < 1) = false := by simp; omega
  have d2 : decide ((nb x : Int) < (N : Int)) = true := by simp; exact hb
  have d2b : decide (nb x < N) = true := by simp; exact hb
  obtain ⟨s, hs⟩ : ∃ s, s = nroot N x := ⟨_, rfl⟩
  have hs1 : s ≤ 1 ∧ min (nb x : Int) 1 = (s : Int) := by
    rcases Nat.eq_zero_or_pos x with h0 | h0
    · subst h0; rw [hs, nroot_zero, nb_zero]; exact ⟨by omega, rfl⟩
    · rw [hs, nroot_big hN h0 (Nat.le_of_lt hb)]; have := nb_pos h0; exact ⟨by omega, by omega⟩
  have em := lay hs1.2
  have hs1 := hs1.1
  have HS := Lib.hid hs
  obtain ⟨bb, hbb⟩ : ∃ bb, bb = decide (nroot N x ^ N = x) := ⟨_, rfl⟩
  obtain ⟨z, hz⟩ : ∃ z, z = cmpN s x := ⟨_, rfl⟩
  have hzb : (z == 0) = bb := by
    rw [hz, cmp_eq, hbb, ← hs]
    have : s ^ N = s := by
      rcases (show s = 0 ∨ s = 1 by omega) with h1 | h1
      · rw [h1, Nat.zero_pow (by omega)]
      · rw [h1, Nat.one_pow]
    rw [this]
  have hzc : decide (z = 0) = bb := by rw [← hzb]; rfl
  have HBB := Lib.hid hbb
  have CC : Hid (∀ (w : World) (v u : Value), Num w v s 1 → Num w u x L → Calls Tryz.prog 42 #[v, u] w (Keeps (.int .i64 z) w)) := fun w v u h1 h2 => by rw [hz]; exact cmp5_any h1 h2 (by omega) (by omega)
  clear hbb hz hs h hb
  go_enter Tryz.func12, Tryz.ntmps12
  have C := Lib.hid (bits5_any (w := w) H.out (by omega))
  generalize nb x = b at *
  go_wp2_with fail
  refine (C.out).mono ?_
  rintro e w1 ⟨rfl, hb1⟩
  go_wp2_with fail
  refine (word5_any (x := s) (x' := (s : Int)) rfl (by omega)).mono ?_
  rintro e w2 ⟨A_r, n_r, c_r, rfl, o_r, hb2, l_r⟩
  go_wp2_with fail
  refine (CC.out _ _ _ (o_r.num l_r) ((H.out.below hb1).below hb2)).mono ?_
  rintro e w3 ⟨rfl, hb3⟩
  go_wp2
  go_ret3
  exact ⟨_, _, _, by rw [← HBB.out]; rfl, by rw [← HS.out]; exact ((o_r.mono hb1.size).below hb3), (bt (bt hb1 hb2) hb3), by omega⟩
set_option maxHeartbeats 4000000 in
theorem root5_in {v : Value} {x L N : Nat} {w : World} (h : Num w v x L) (hN : 1 ≤ N) (hb : N ≤ nb x) (hL1 : 1 ≤ L) (hL : L ≤ 100) : Calls Tryz.prog 12 #[v, .int .i64 (N : Int)] w (GRt w N x L) := by
  have H := Lib.hid h
  have hbL : nb x ≤ 64 * L := nb_W h.lt
  have HLT := Lib.hid h.lt
  obtain ⟨_, _, _, _, rfl, _⟩ := id h
  have q3 : ((N : Int) == 0) = false := by rw [beq_eq_false_iff_ne]; omega
  have d1 : decide ((N : Int) < 1) = false := by simp; omega
  have d2 : decide ((nb x : Int) < (N : Int)) = false := by simp; exact hb
  have d2b : decide (nb x < N) = false := by simp; exact hb
  have HS := Lib.hid (RtI.start (n := N) (a := x) (by omega))
  have hq : nb x / N ≤ nb x := Nat.div_le_self _ _
  have e1 := lay (show (nb x : Int) / (N : Int) = ((nb x / N : Nat) : Int) by rw [Int.natCast_ediv])
  have e2 := lay (show (nb x : Int).tdiv (N : Int) = ((nb x / N : Nat) : Int) by rw [Int.tdiv_eq_ediv_of_nonneg (by omega), Int.natCast_ediv])
  have nz : (N : Int) ≠ 0 := by omega
  have nz3 : ¬ N = 0 := by omega
  have C := Lib.hid (bits5_any (w := w) h (by omega))
  generalize nb x / N = q at *
  generalize nb x = b at *
  clear h
  go_enter Tryz.func12, Tryz.ntmps12
  go_wp2_with fail
  refine (C.out).mono ?_
  rintro e w1 ⟨rfl, hb1⟩
  have HB1 := Lib.hid hb1
  go_wp2
  go_loopw [9, 10] (fun sv iv wr => ∃ (j s : Nat) (A : Option Addr) (m c : Nat), Hid (RtI N x q s j ∧ Own .u64 49 w.heap.size wr A m c (dg W s) ∧ Below w.heap.size w wr) ∧ j ≤ q + 1 ∧ sv = .slice A m c ∧ iv = .int .i64 ((j : Int) - 1)) (fun _ iv _ => (intOf iv + 1).toNat)
  case atStart =>
    refine ⟨q + 1, 0, _, _, _, ⟨HS.out, ?_, bt HB1.out (belowA _ _)⟩, Nat.le_refl _, rfl, by go_num⟩
    show Own _ _ _ _ _ _ _ (dg W 0)
    rw [dg_zero W_gt]
    exact Own.lit (k := .u64) (t := 49) _ [] (by simp [maxLen]) HB1.out.size
  case round =>
    obtain ⟨j, s, A, m, c, hI, hj, rfl, rfl⟩ := hrel
    have lm : m ≤ L := by
      rw [← hI.out.2.1.len]
      refine dgl (Nat.lt_of_le_of_lt ?_ HLT.out)
      have h1 := hI.out.1.1
      rcases Nat.eq_zero_or_pos s with h2 | h2
      · omega
      · have : s ^ 1 ≤ s ^ N := Nat.pow_le_pow_right h2 (by omega)
        rw [Nat.pow_one] at this
        omega
    obtain ⟨wo, rfl⟩ : ∃ wo : World, wo = wr := ⟨_, rfl⟩
    by_cases h0 : j = 0
    · subst h0
      have HF := Lib.hid (hI.out.1.done (by omega))
      have d3 : decide ((0 : Int) ≤ ((0 : Nat) : Int) - 1) = false := by simp
      obtain ⟨bb, hbb⟩ : ∃ bb, bb = decide (nroot N x ^ N = x) := ⟨_, rfl⟩
      obtain ⟨z, hz⟩ : ∃ z, z = cmpN (s ^ N) x := ⟨_, rfl⟩
      have hzb : (z == 0) = bb := by rw [hz, cmp_eq, hbb, HF.out]
      have hzc : decide (z = 0) = bb := by rw [← hzb]; rfl
      have HBB := Lib.hid hbb
      have hLN : m * N ≤ 640000 := by
        have h1 : m * N ≤ 100 * 6400 := Nat.mul_le_mul (by omega) (by omega)
        omega
      have CC : Hid (∀ (w : World) (v u : Value), Num w v (s ^ N) (m * N + 1) → Num w u x L → Calls Tryz.prog 42 #[v, u] w (Keeps (.int .i64 z) w)) := fun w v u h1 h2 => by rw [hz]; exact cmp5_any h1 h2 (by omega) (by omega)
      clear hbb hz
      go_wp2_with fail
      refine (pow5_any (N := N) (hI.out.2.1.num (Nat.le_refl _)) rfl (by omega) (by omega) (by omega)).mono ?_
      rintro e w1 ⟨A_p, n_p, c_p, rfl, o_p, hb1, l_p⟩
      go_wp2_with fail
      refine (CC.out _ _ _ (o_p.num l_p) ((H.out.below hI.out.2.2).below hb1)).mono ?_
      rintro e w2 ⟨rfl, hb2⟩
      have HR : Hid (Own .u64 49 w.heap.size w2 A m c (dg W (nroot N x)) ∧ Below w.heap.size w w2) := ⟨by rw [← HF.out]; exact hI.out.2.1.below (bt hb1 hb2), bt hI.out.2.2 (bt hb1 hb2)⟩
      clear o_p
      go_wp2
      go_ret3
      exact ⟨_, _, _, by rw [← HBB.out]; rfl, HR.out.1, HR.out.2, lm⟩
    · obtain ⟨k, rfl⟩ : ∃ k, j = k + 1 := ⟨j - 1, by omega⟩
      have ei : ((k + 1 : Nat) : Int) - 1 = (k : Int) := by omega
      rw [ei]
      have d3 : decide ((0 : Int) ≤ (k : Int)) = true := by simp
      have HTL := Lib.hid (two_W hI.out.1.next_lt)
      clear h0 ei
      go_wp2_with fail
      refine (two5_any (i := k) rfl (by omega)).mono ?_
      rintro e w3 ⟨A_t, n_t, c_t, rfl, o_t, hb3, l_t⟩
      go_wp2_with fail
      refine (plus5_any ((hI.out.2.1.num lm).below hb3) (o_t.num l_t) (by omega) (by omega)).mono ?_
      rintro e w4 ⟨A_u, n_u, c_u, rfl, o_u, hb4, l_u⟩
      have lu : Hid (n_u ≤ q / 64 + 2) := by show _ ≤ _; rw [← o_u.len]; have := dgl HTL.out; omega
      by_cases hc : (s + 2 ^ k) ^ N ≤ x
      · have CB : Hid (∀ (w : World) (v u : Value), Num w v (s + 2 ^ k) (q / 64 + 2) → Num w u x L → Calls Tryz.prog 45 #[v, u, .int .i64 (N : Int)] w (Keeps (.bool true) w)) := fun w v u h1 h2 => by
          have := below5_any (N := N) h1 h2 rfl hN (by omega) (by omega) (by omega)
          rwa [decide_eq_true hc] at this
        have HC := Lib.hid (hI.out.1.up hc)
        clear hc
        go_wp2_with fail
        refine (CB.out _ _ _ (o_u.num (L := q / 64 + 2) lu.out) (((H.out.below hI.out.2.2).below hb3).below hb4)).mono ?_
        rintro e w5 ⟨rfl, hb5⟩
        have HNEW : Hid (RtI N x q (s + 2 ^ k) k ∧ Own .u64 49 w.heap.size w5 A_u n_u c_u (dg W (s + 2 ^ k)) ∧ Below w.heap.size w w5) := ⟨HC.out, ((o_u.mono hb3.size).below hb5).mono hI.out.2.2.size, bt hI.out.2.2 (bt (bt hb3 hb4) hb5)⟩
        clear o_u o_t
        go_wp2
        go_roundw
        case rel => exact ⟨k, _, _, _, _, HNEW, by omega, rfl, rfl⟩
        case measure => simp [intOf]
      · have CB : Hid (∀ (w : World) (v u : Value), Num w v (s + 2 ^ k) (q / 64 + 2) → Num w u x L → Calls Tryz.prog 45 #[v, u, .int .i64 (N : Int)] w (Keeps (.bool false) w)) := fun w v u h1 h2 => by
          have := below5_any (N := N) h1 h2 rfl hN (by omega) (by omega) (by omega)
          rwa [decide_eq_false hc] at this
        have HC := Lib.hid (hI.out.1.stay (by omega))
        clear hc
        go_wp2_with fail
        refine (CB.out _ _ _ (o_u.num (L := q / 64 + 2) lu.out) (((H.out.below hI.out.2.2).below hb3).below hb4)).mono ?_
        rintro e w6 ⟨rfl, hb6⟩
        have HNEW : Hid (RtI N x q s k ∧ Own .u64 49 w.heap.size w6 A m c (dg W s) ∧ Below w.heap.size w w6) := ⟨HC.out, hI.out.2.1.below (bt (bt hb3 hb4) hb6), bt hI.out.2.2 (bt (bt hb3 hb4) hb6)⟩
        clear o_u o_t
        go_wp2
        go_roundw
        case rel => exact ⟨k, _, _, _, _, HNEW, by omega, rfl, rfl⟩
        case measure => simp [intOf]
theorem root5_any {v : Value} {x L N : Nat} {n' : Int} {w : World} (h : Num w v x L) (en : n' = (N : Int)) (hN : 1 ≤ N) (hL1 : 1 ≤ L) (hL : L ≤ 100) : Calls Tryz.prog 12 #[v, .int .i64 n'] w (GRt w N x L) := by
  subst en
  rcases Nat.lt_or_ge (nb x) N with h2 | h2
  · exact root5_few h hN h2 hL1 (by omega)
  · exact root5_in h hN h2 hL1 hL
theorem sqrt5_any {v : Value} {x L : Nat} {w : World} (h : Num w v x L) (hL1 : 1 ≤ L) (hL : L ≤ 100) : Calls Tryz.prog 9 #[v] w (GN2 w (nroot 2 x) L (x - nroot 2 x * nroot 2 x) L) := by
  have HLE : Hid (nroot 2 x * nroot 2 x ≤ x) := by
    show _ ≤ _
    have := (nroot_spec (n := 2) (by omega) x).1
    rwa [Nat.pow_two] at this
  have H := Lib.hid h
  obtain ⟨_, _, _, _, rfl, _⟩ := id h
  clear h
  go_enter Tryz.func9, Tryz.ntmps9
  go_wp2_with fail
  refine (root5_any (N := 2) (n' := 2) H.out rfl (by omega) hL1 hL).mono ?_
  rintro e ws ⟨A_s, n_s, c_s, rfl, o_s, hbs, l_s⟩
  generalize decide (nroot 2 x ^ 2 = x) = ex
  go_wp2_with fail
  refine (norm5_any (H.out.below hbs) (by omega)).mono ?_
  rintro e w1 ⟨A_nn, n_nn, c_nn, rfl, o_nn, hb1, l_nn⟩
  go_wp2_with fail
  refine (times5_any ((o_s.num l_s).below hb1) ((o_s.num l_s).below hb1) (by omega) (by omega)).mono ?_
  rintro e w2 ⟨A_t, n_t, c_t, rfl, o_t, hb2, l_t⟩
  go_wp2_with fail
  refine (minus5_any ((o_nn.num l_nn).below hb2) (o_t.num l_t) HLE.out hL1 (by omega) (by omega)).mono ?_
  rintro e w3 ⟨A_d, n_d, c_d, rfl, o_d, hb3, l_d⟩
  have HO := Lib.hid (o_s.below (bt (bt hb1 hb2) hb3))
  go_wp2
  go_ret2
  exact ⟨_, _, _, _, _, _, rfl, HO.out, (o_d.mono (bt (bt hbs hb1) hb2).size), (bt (bt (bt hbs hb1) hb2) hb3), l_s, l_d⟩
theorem count5_zero {v u : Value} {a b L K : Nat} {w : World} (h : Num w v a L) (h' : Num w u b K) (ha : a = 0) (hL : L ≤ 17179869184) : Calls Tryz.prog 14 #[v, u] w (Keeps (.tuple #[.int .i64 0, .slice none 0 0, .int .i64 1]) w) := by
  have H := Lib.hid h
  obtain ⟨_, _, _, _, rfl, _⟩ := id h
  obtain ⟨_, _, _, _, rfl, _⟩ := id h'
  have q0 : decide (a = 0) = true := by simpa using ha
  clear h h' ha
  go_enter Tryz.func14, Tryz.ntmps14
  go_wp2_with fail
  refine (zero5_any H.out (by omega)).mono ?_
  rintro e w1 ⟨rfl, hb1⟩
  go_wp2
  go_ret3
  exact ⟨rfl, hb1⟩
theorem count5_arg {v u : Value} {a b L K : Nat} {w : World} (h : Num w v a L) (h' : Num w u b K) (ha : 0 < a) (hb : b < 2) (hL : L ≤ 17179869184) (hK : K ≤ 17179869184) : Calls Tryz.prog 14 #[v, u] w (Keeps (.tuple #[.int .i64 0, .slice none 0 0, .int .i64 3]) w) := by
  have H := Lib.hid h
  have H' := Lib.hid h'
  obtain ⟨_, _, _, _, rfl, _⟩ := id h
  obtain ⟨_, _, _, _, rfl, _⟩ := id h'
  have q0 : decide (a = 0) = false := by simp; omega
  obtain ⟨z, hz⟩ : ∃ z, z = cmpN b 1 := ⟨_, rfl⟩
  have d0 : decide (z ≤ (0 : Int)) = true := by rw [hz, cmp_leq]; simp; omega
  have CC : Hid (∀ (w : World) (v u : Value), Num w v b K → Num w u 1 1 → Calls Tryz.prog 42 #[v, u] w (Keeps (.int .i64 z) w)) := fun w v u h1 h2 => by rw [hz]; exact cmp5_any h1 h2 (by omega) (by omega)
  clear h h' ha hb hz
  go_enter Tryz.func14, Tryz.ntmps14
  go_wp2_with fail
  refine (zero5_any H.out (by omega)).mono ?_
  rintro e w1 ⟨rfl, hb1⟩
  go_wp2_with fail
  refine (word5_any (x := 1) (x' := 1) rfl (by omega)).mono ?_
  rintro e w2 ⟨A_o, n_o, c_o, rfl, o_o, hb2, l_o⟩
  go_wp2_with fail
  refine (CC.out _ _ _ ((H'.out.below hb1).below hb2) (o_o.num l_o)).mono ?_
  rintro e w3 ⟨rfl, hb3⟩
  go_wp2
  go_ret3
  exact ⟨rfl, (bt (bt hb1 hb2) hb3)⟩
set_option maxHeartbeats 2000000 in
theorem count5_any {v u : Value} {a b L K : Nat} {w : World} (h : Num w v a L) (h' : Num w u b K) (ha : 0 < a) (hb : 2 ≤ b) (hL : L ≤ 67108864) (hK : K ≤ 67108864) : Calls Tryz.prog 14 #[v, u] w (GCnt w a b L) := by
  have hL1 : 1 ≤ L := num_one_le h ha
  have hK1 : 1 ≤ K := num_one_le h' (by omega)
  have H := Lib.hid h
  have H' := Lib.hid h'
  obtain ⟨_, _, _, _, rfl, _⟩ := id h
  obtain ⟨_, _, _, _, rfl, _⟩ := id h'
  have q0 : decide (a = 0) = false := by simp; omega
  obtain ⟨z, hz⟩ : ∃ z, z = cmpN b 1 := ⟨_, rfl⟩
  have d0 : decide (z ≤ (0 : Int)) = false := by rw [hz, cmp_leq]; simp; omega
  have CC : Hid (∀ (w : World) (v u : Value), Num w v b K → Num w u 1 1 → Calls Tryz.prog 42 #[v, u] w (Keeps (.int .i64 z) w)) := fun w v u h1 h2 => by rw [hz]; exact cmp5_any h1 h2 (by omega) (by omega)
  have HA := Lib.hid ha
  have HB2 := Lib.hid hb
  have HNB : Hid (∀ n s, b ^ n * s = a → n ≤ nb a) := fun n s e => cnt_le e hb ha
  have HB0 : Hid (0 < b) := by show _ < _; omega
  have hnbL : nb a ≤ 64 * L := nb_W h.lt
  obtain ⟨Z, hZ⟩ : ∃ Z, Z = nb a := ⟨_, rfl⟩
  rw [← hZ] at hnbL HNB
  have HZ := Lib.hid hZ
  clear h h' ha hb hz hZ
  go_enter Tryz.func14, Tryz.ntmps14
  go_wp2_with fail
  refine (zero5_any H.out (by omega)).mono ?_
  rintro e w1 ⟨rfl, hb1⟩
  go_wp2_with fail
  refine (word5_any (x := 1) (x' := 1) rfl (by omega)).mono ?_
  rintro e w2 ⟨A_o, n_o, c_o, rfl, o_o, hb2, l_o⟩
  go_wp2_with fail
  refine (CC.out _ _ _ ((H'.out.below hb1).below hb2) (o_o.num l_o)).mono ?_
  rintro e w3 ⟨rfl, hb3⟩
  go_wp2_with fail
  refine (norm5_any (((H.out.below hb1).below hb2).below hb3) (by omega)).mono ?_
  rintro e w4 ⟨A_s, n_s, c_s, rfl, o_s, hb4, l_s⟩
  have HS := Lib.hid (And.intro (o_s.mono (bt (bt hb1 hb2) hb3).size) (bt (bt (bt hb1 hb2) hb3) hb4))
  clear o_s o_o
  go_wp2
  go_loopw [7, 8] (fun nv lv wr => ∃ (n s : Nat) (A : Option Addr) (m c : Nat), Hid (b ^ n * s = a ∧ 0 < s ∧ Own .u64 49 w.heap.size wr A m c (dg W s) ∧ Below w.heap.size w wr) ∧ m ≤ L ∧ n ≤ Z ∧ nv = .int .i64 (n : Int) ∧ lv = .slice A m c) (fun _ lv wr => mval wr lv)
  case atStart => exact ⟨0, a, _, _, _, ⟨by simp, HA.out, HS.out.1, HS.out.2⟩, by omega, Nat.zero_le _, rfl, rfl⟩
  case round =>
    obtain ⟨n, s, A, m, c, hI, hm, hn, rfl, rfl⟩ := hrel
    obtain ⟨wo, rfl⟩ : ∃ wo : World, wo = wr := ⟨_, rfl⟩
    have HN := Lib.hid (hI.out.2.2.1.num hm)
    rcases Nat.eq_zero_or_pos (s % b) with h0 | h0
    · have CZ : Hid (∀ (w : World) (v : Value), Num w v (s % b) K → Calls Tryz.prog 49 #[v] w (Keeps (.bool true) w)) := fun w v h => by
        have := zero5_any h (by omega)
        rwa [decide_eq_true h0] at this
      have HS1 : Hid (b ^ (n + 1) * (s / b) = a ∧ 0 < s / b ∧ s / b < s) := by
        have e : s = b * (s / b) := by have := Nat.mod_add_div s b; omega
        refine ⟨by rw [Nat.pow_succ, Nat.mul_assoc, ← e]; exact hI.out.1, ?_, Nat.div_lt_self hI.out.2.1 HB2.out⟩
        rcases Nat.eq_zero_or_pos (s / b) with h1 | h1
        · rw [h1, Nat.mul_zero] at e; have := hI.out.2.1; omega
        · exact h1
      have hn2 := HNB.out _ _ HS1.out.1
      clear h0
      go_wp2_with fail
      refine (quo5_any HN.out (H'.out.below hI.out.2.2.2) HB0.out (by omega) (by omega) hL1 hK1).mono ?_
      rintro e w1 ⟨A_q, n_q, c_q, A_r, n_r, c_r, rfl, o_q, o_r, hb1, l_q, l_r⟩
      go_wp2_with fail
      refine (CZ.out _ _ (o_r.num l_r)).mono ?_
      rintro e w2 ⟨rfl, hb2⟩
      have HNX : Hid (b ^ (n + 1) * (s / b) = a ∧ 0 < s / b ∧ Own .u64 49 w.heap.size w2 A_q n_q c_q (dg W (s / b)) ∧ Below w.heap.size w w2) := ⟨HS1.out.1, HS1.out.2.1, (o_q.below hb2).mono hI.out.2.2.2.size, bt hI.out.2.2.2 (bt hb1 hb2)⟩
      have HMS : Hid (mval w2 (.slice A_q n_q c_q) < mval wo (.slice A m c)) := by
        show _ < _
        rw [mval_num (HNX.out.2.2.1.num l_q), mval_num HN.out]
        exact HS1.out.2.2
      clear o_q o_r
      go_wp2
      go_roundw
      case rel => exact ⟨n + 1, _, _, _, _, HNX, by omega, hn2, by go_num, rfl⟩
      case measure => exact HMS.out
    · have CZ : Hid (∀ (w : World) (v : Value), Num w v (s % b) K → Calls Tryz.prog 49 #[v] w (Keeps (.bool false) w)) := fun w v h => by
        have := zero5_any h (by omega)
        rwa [decide_eq_false (by omega)] at this
      have HZ0 : Hid (s % b ≠ 0) := by show _ ≠ _; omega
      clear h0
      go_wp2_with fail
      refine (quo5_any HN.out (H'.out.below hI.out.2.2.2) HB0.out (by omega) (by omega) hL1 hK1).mono ?_
      rintro e w3 ⟨A_q, n_q, c_q, A_r, n_r, c_r, rfl, o_q, o_r, hb3, l_q, l_r⟩
      go_wp2_with fail
      refine (CZ.out _ _ (o_r.num l_r)).mono ?_
      rintro e w4 ⟨rfl, hb4⟩
      have HC : Hid (CntOk a b n s ∧ Own .u64 49 w.heap.size w4 A m c (dg W s) ∧ Below w.heap.size w w4) := ⟨⟨hI.out.1, HZ0.out⟩, hI.out.2.2.1.below (bt hb3 hb4), bt hI.out.2.2.2 (bt hb3 hb4)⟩
      clear o_q o_r
      go_wp2
      go_ret3
      exact ⟨n, s, _, _, _, rfl, HC.out.1, HC.out.2.1, HC.out.2.2, hm, by rw [← HZ.out]; exact hn⟩
theorem cnt_exists {a b : Nat} (ha : 0 < a) (hb : 2 ≤ b) : ∃ n s, CntOk a b n s := by
  induction a using Nat.strongRecOn with
  | _ a ih =>
    by_cases h : a % b = 0
    · have e : a = b * (a / b) := by have := Nat.mod_add_div a b; omega
      have h1 : 0 < a / b := by
        rcases Nat.eq_zero_or_pos (a / b) with h1 | h1
        · rw [h1, Nat.mul_zero] at e; omega
        · exact h1
      obtain ⟨n, s, h2, h3⟩ := ih (a / b) (Nat.div_lt_self ha hb) h1
      exact ⟨n + 1, s, by rw [Nat.pow_succ, Nat.mul_comm _ b, Nat.mul_assoc, h2, ← e], h3⟩
    · exact ⟨0, a, by simp, h⟩
/-- a slice to read, a Bool (a count), an error's number -/
def GRx (w : World) (xs : List Nat) (ex : Bool) (er : Int) (L : Nat) (e : Ending) (w' : World) : Prop :=
  ∃ A n c, e = .returned (.tuple #[.slice A n c, .bool ex, .int .i64 er]) ∧ Below w.heap.size w w' ∧ n ≤ L ∧ Rd .u64 w' A n c xs
def GCx (w : World) (xs : List Nat) (cn er : Int) (L : Nat) (e : Ending) (w' : World) : Prop :=
  ∃ A n c, e = .returned (.tuple #[.int .i64 cn, .slice A n c, .int .i64 er]) ∧ Below w.heap.size w w' ∧ n ≤ L ∧ Rd .u64 w' A n c xs
theorem rd_none {k : IntKind} {w : World} : Rd k w none 0 0 [] := Rd.nil
theorem root_both (a : Nat) (N : Int) : ∃ (xs : List Nat) (ex : Bool) (er : Int),
    (∀ (w : World) (v : Value), Num w v a 30 → Calls Tryz.prog 11 #[v, .int .i64 N] w (GRx w xs ex er 30)) ∧
    (∀ (w : World) (v : Value), Num w v a 30 → Calls Tryz.prog 12 #[v, .int .i64 N] w (GRx w xs ex er 30)) := by
  rcases Int.lt_or_le N 1 with h | h
  · refine ⟨[], false, 3, fun w v h1 => ?_, fun w v h1 => ?_⟩
    · exact (groot_bad h).mono fun e w' h2 => ⟨_, _, _, h2.1, h2.2, by omega, rd_none⟩
    · exact (root5_bad h).mono fun e w' h2 => ⟨_, _, _, h2.1, h2.2, by omega, rd_none⟩
  · obtain ⟨n, rfl⟩ : ∃ n : Nat, N = (n : Int) := ⟨N.toNat, by omega⟩
    refine ⟨dg W (nroot n a), decide (nroot n a ^ n = a), 0, fun w v h1 => ?_, fun w v h1 => ?_⟩
    · exact (groot_any h1 rfl (by omega) (by omega)).mono fun e w' ⟨A, m, c, h2, h3, h4, h5⟩ => ⟨A, m, c, h2, h4, h5, h3.rd⟩
    · exact (root5_any h1 rfl (by omega) (by omega) (by omega)).mono fun e w' ⟨A, m, c, h2, h3, h4, h5⟩ => ⟨A, m, c, h2, h4, h5, h3.rd⟩
theorem count_both (a b : Nat) : ∃ (xs : List Nat) (cn er : Int),
    (∀ (w : World) (v u : Value), Num w v a 30 → Num w u b 30 → Calls Tryz.prog 13 #[v, u] w (GCx w xs cn er 30)) ∧
    (∀ (w : World) (v u : Value), Num w v a 30 → Num w u b 30 → Calls Tryz.prog 14 #[v, u] w (GCx w xs cn er 30)) := by
  rcases Nat.eq_zero_or_pos a with h | h
  · refine ⟨[], 0, 1, fun w v u h1 h2 => ?_, fun w v u h1 h2 => ?_⟩
    · exact (gcount_zero h1 h2 h (by omega)).mono fun e w' h2 => ⟨_, _, _, h2.1, h2.2, by omega, rd_none⟩
    · exact (count5_zero h1 h2 h (by omega)).mono fun e w' h2 => ⟨_, _, _, h2.1, h2.2, by omega, rd_none⟩
  · rcases Nat.lt_or_ge b 2 with hb | hb
    · refine ⟨[], 0, 3, fun w v u h1 h2 => ?_, fun w v u h1 h2 => ?_⟩
      · exact (gcount_arg h1 h2 h hb (by omega) (by omega)).mono fun e w' h2 => ⟨_, _, _, h2.1, h2.2, by omega, rd_none⟩
      · exact (count5_arg h1 h2 h hb (by omega) (by omega)).mono fun e w' h2 => ⟨_, _, _, h2.1, h2.2, by omega, rd_none⟩
    · obtain ⟨n, s, hns⟩ := cnt_exists h hb
      have key : ∀ {w w' : World} {e : Ending}, GCnt w a b 30 e w' → GCx w (dg W s) (n : Int) 0 30 e w' := fun ⟨n', s', A, m, c, h2, h3, h4, h5, h6, h7⟩ => by
        obtain ⟨rfl, rfl⟩ := h3.uniq hns hb
        exact ⟨A, m, c, h2, h5, h6, h4.rd⟩
      refine ⟨dg W s, (n : Int), 0, fun w v u h1 h2 => ?_, fun w v u h1 h2 => ?_⟩
      · exact (gcount_any h1 h2 h hb (by omega) (by omega)).mono fun e w' h => key h
      · exact (count5_any h1 h2 h hb (by omega) (by omega)).mono fun e w' h => key h
end Go.Proofs.YtbamhgpadfojfaaGreat
