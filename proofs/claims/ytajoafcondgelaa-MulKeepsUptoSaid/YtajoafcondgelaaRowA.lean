/-
  Walks: mul.Factorial, next, Binomial, Row.
-/
import Derived.Test.YtajoafcondgelaaPas
import Derived.Test.YtajoafcondgelaaRows2
import Derived.Test.YtajoafcondgelaaPowX
import Derived.Test.YtajoafcondgelaaDivOne
namespace Go.Proofs.Ytajoafcondgelaa
open Go.RowKit
set_option linter.unusedVariables false

set_option maxHeartbeats 1000000 in
theorem fact_any {N : Nat} {n' : Int} {w : World} (hn' : n' = (N : Int)) (hN : N ≤ 1000) : Calls Try.prog 11 #[.int .i64 n'] w (GNE w (fct N) (N + 1) 0) := by
  subst hn'
  go_enter Try.func11, Try.ntmps11
  go_wp2_with fail
  refine (bound_ok (by omega) (by omega)).mono ?_
  rintro e w1 ⟨rfl, hb1⟩
  go_wp2_with fail
  refine (one_any w1).mono ?_
  rintro e w2 ⟨A2, n2, c2, rfl, ho2, hb2, hl2⟩
  go_wp2_with fail
  have HO := Lib.hid (And.intro (ho2.mono hb1.size) (bt hb1 hb2))
  clear ho2 hb1 hb2
  go_loopw [5, 6] (fun v i wr => ∃ (k : Nat) (B : Option Addr) (q e : Nat), Hid (Own .u64 30 w.heap.size wr B q e (dg W (fct (k - 1))) ∧ Below w.heap.size w wr) ∧ 2 ≤ k ∧ k ≤ max N 1 + 1 ∧ q ≤ k - 1 ∧ v = .slice B q e ∧ i = .int .i64 k) (fun _ i _ => N + 1 - (intOf i).toNat)
  case atStart => exact ⟨2, _, _, _, ⟨HO.out.1, HO.out.2⟩, by omega, by omega, hl2, rfl, rfl⟩
  case round =>
    obtain ⟨k, B, q, e, hI, hk2, hk, hq, rfl, rfl⟩ := hrel
    by_cases hlt : k ≤ N
    · have HF : Hid (fct (k - 1) * k = fct k) := by
        show _ = _
        obtain ⟨j, rfl⟩ : ∃ j, k = j + 1 := ⟨k - 1, by omega⟩
        rfl
      have hkW : k < W := by rw [W_eq]; omega
      go_wp2_with fail
      refine (times_any (y := k) (hI.out.1.num hq) (by rfl) hkW (by omega)).mono ?_
      rintro e w3 ⟨A3, n3, c3, rfl, ho3, hb3, hl3⟩
      clear hkW
      go_wp2
      go_roundw
      case rel =>
        refine ⟨k + 1, A3, _, c3, ⟨?_, bt hI.out.2 hb3⟩, by omega, by omega, by omega, rfl, by go_num⟩
        rw [HF.out] at ho3
        exact ho3.mono hI.out.2.size
      case measure => simp [intOf]; omega
    · have HF : Hid (fct (k - 1) = fct N) := by
        show _ = _
        by_cases h0 : N = 0
        · subst h0; obtain rfl : k = 2 := by omega
          rfl
        · congr 1; omega
      go_wp2
      go_ret2
      exact ⟨_, _, _, rfl, by rw [← HF.out]; exact hI.out.1, hI.out.2, by omega⟩

set_option maxHeartbeats 1000000 in
theorem next_any {v : Value} {x L n k : Nat} {n' k' : Int} {w : World} (h : Num w v x L) (en : n' = (n : Int)) (ek : k' = (k : Int)) (hk : k ≤ n) (hn : n ≤ 1000) (hL : L ≤ 1000000) :
    Calls Try.prog 30 #[v, .int .i64 n', .int .i64 k'] w (GN w (x * (n - k) / (k + 1)) (L + 1)) := by
  subst en ek
  have H := Lib.hid h
  clear h
  have h1 : n - k < W := by rw [W_eq]; omega
  have h2 : k + 1 < W := by rw [W_eq]; omega
  have H1 := Lib.hid h1
  have H2 := Lib.hid h2
  clear h1 h2
  go_enter Try.func30, Try.ntmps30
  go_wp2_with fail
  refine (times_any (y := n - k) H.out (by omega) H1.out (by omega)).mono ?_
  rintro e w1 ⟨A1, n1, c1, rfl, ho1, hb1, hl1⟩
  go_wp2_with fail
  refine (divOne_any (y := k + 1) ho1.rd (dg_all W_gt _) (by omega) (by omega) H2.out (by omega)).mono ?_
  rintro e w2 ⟨A2, n2, c2, rfl, ho2, hb2⟩
  go_wp2_with fail
  have HL2 : Hid (n2 ≤ L + 1) := by show _ ≤ _; rw [← ho2.len, wds_length]; exact hl1
  refine (trim_any A2 n2 c2 _ w2 ho2.rd (by have := HL2.out; omega)).mono ?_
  rintro e w3 ⟨A3, n3, c3, rfl, ho3, hb3⟩
  go_wp2
  go_ret
  have hx : x * (n - k) / (k + 1) < W ^ n1 := by
    have := val_lt (dg_all W_gt (x * (n - k)))
    rw [dg_val W_gt, ho1.len] at this
    exact Nat.lt_of_le_of_lt (Nat.div_le_self _ _) this
  rw [dg_val W_gt, strip_wds hx] at ho3
  refine ⟨_, _, _, rfl, ho3.mono (bt hb1 hb2).size, bt (bt hb1 hb2) hb3, ?_⟩
  rw [← ho3.len]
  exact Nat.le_trans (dgl hx) hl1

/-- an error and an empty list -/
theorem binom_ok {N K : Nat} {n' k' : Int} {w : World} (en : n' = (N : Int)) (ek : k' = (K : Int)) (hN : N ≤ 1000) (hK : K ≤ N) : Calls Try.prog 12 #[.int .i64 n', .int .i64 k'] w (GNE w (pas N K) (N + 1) 0) := by
  subst en ek
  obtain ⟨m, hm⟩ : ∃ m, m = min K (N - K) := ⟨_, rfl⟩
  have hmin := fun (ts : Array TypeId) (t : TypeId) (w : World) => (show (Builtin.min_ ts t #[.int .i64 (K : Int), .int .i64 ((N : Int) - (K : Int))]).run Try.prog w = .ok (.int .i64 (m : Int)) w by rw [run_min_int2]; congr 2; split <;> omega)
  have HM : Hid (pas N m = pas N K) := by show _ = _; rw [hm]; exact pas_min hK
  have hmK : m ≤ N := by omega
  clear hm
  have q1 : ¬ (K : Int) < 0 := by omega
  have q2 : ¬ (N : Int) < (K : Int) := by omega
  go_enter Try.func12, Try.ntmps12
  go_wp2_with fail
  refine (bound_ok (by omega) (by omega)).mono ?_
  rintro e w1 ⟨rfl, hb1⟩
  go_wp2_with fail
  refine (one_any w1).mono ?_
  rintro e w2 ⟨A2, n2, c2, rfl, ho2, hb2, hl2⟩
  go_wp2_with fail
  have HO := Lib.hid (And.intro (ho2.mono hb1.size) (bt hb1 hb2))
  clear ho2 hb1 hb2
  go_loopw [7, 27] (fun v i wr => ∃ (k : Nat) (B : Option Addr) (q e : Nat), Hid (Own .u64 30 w.heap.size wr B q e (dg W (pas N k)) ∧ Below w.heap.size w wr) ∧ k ≤ m ∧ q ≤ k + 1 ∧ v = .slice B q e ∧ i = .int .i64 k) (fun _ i _ => m - (intOf i).toNat)
  case atStart => exact ⟨0, _, _, _, ⟨by rw [pas_zero]; exact HO.out.1, HO.out.2⟩, by omega, hl2, rfl, rfl⟩
  case round =>
    obtain ⟨k, B, q, e, hI, hk, hq, rfl, rfl⟩ := hrel
    by_cases hlt : k < m
    · go_wp2_with fail
      refine (next_any (hI.out.1.num hq) rfl rfl (by omega) hN (by omega)).mono ?_
      rintro e w3 ⟨A3, n3, c3, rfl, ho3, hb3, hl3⟩
      go_wp2
      go_roundw
      case rel =>
        refine ⟨k + 1, A3, _, c3, ⟨?_, bt hI.out.2 hb3⟩, by omega, by omega, rfl, by go_num⟩
        rw [pas_div] at ho3
        exact ho3.mono hI.out.2.size
      case measure => simp [intOf]; omega
    · obtain rfl : k = m := by omega
      go_wp2
      go_ret2
      exact ⟨_, _, _, rfl, by rw [← HM.out]; exact hI.out.1, hI.out.2, by omega⟩
theorem binom_out {N : Nat} {n' k' : Int} {w : World} (en : n' = (N : Int)) (hN : N ≤ 1000) (hK : k' < 0 ∨ (N : Int) < k') : Calls Try.prog 12 #[.int .i64 n', .int .i64 k'] w (GNE w 0 0 0) := by
  subst en
  rcases hK with hK | hK
  · go_enter Try.func12, Try.ntmps12
    go_wp2_with fail
    refine (bound_ok (by omega) (by omega)).mono ?_
    rintro e w1 ⟨rfl, hb1⟩
    go_wp2
    go_ret2
    exact ⟨_, _, _, rfl, Own.nilx (dg_zero W_gt), hb1, by omega⟩
  · have q1 : ¬ k' < 0 := by omega
    go_enter Try.func12, Try.ntmps12
    go_wp2_with fail
    refine (bound_ok (by omega) (by omega)).mono ?_
    rintro e w1 ⟨rfl, hb1⟩
    go_wp2
    go_ret2
    exact ⟨_, _, _, rfl, Own.nilx (dg_zero W_gt), hb1, by omega⟩

/-- what Row gives -/
def GRow (w : World) (N : Nat) (e : Ending) (w' : World) : Prop :=
  ∃ A c, e = .returned (.tuple #[.slice A (N + 1) c, .int .i64 0]) ∧ OwnR .u64 30 23 w.heap.size w' A (N + 1) c (fun i xs => xs = dg W (pas N i) ∧ xs.length ≤ 1001) ∧ Below w.heap.size w w'
theorem elNats : ElemS Try.prog 26 23 := ⟨Try.underlying26, by kernel_rfl⟩
set_option maxHeartbeats 1000000 in
theorem row_any {N : Nat} {n' : Int} {w : World} (en : n' = (N : Int)) (hN : N ≤ 1000) : Calls Try.prog 10 #[.int .i64 n'] w (GRow w N) := by
  subst en
  have HE := Lib.hid elNats
  go_enter Try.func10, Try.ntmps10
  go_wp2_with fail
  refine (bound_ok (by omega) (by omega)).mono ?_
  rintro e w1 ⟨rfl, hb1⟩
  go_wp2_with fail
  refine (one_any w1).mono ?_
  rintro e w2 ⟨A2, n2, c2, rfl, ho2, hb2, hl2⟩
  have HO := Lib.hid (And.intro (ho2.mono hb1.size) (bt hb1 hb2))
  clear ho2 hb1 hb2
  go_wp2_with fail
  go_loopw [5, 15] (fun v i wr => ∃ (k : Nat) (B : Option Addr) (e : Nat), Hid (OwnR .u64 30 23 w.heap.size wr B (k + 1) e (fun i xs => xs = dg W (pas N i) ∧ xs.length ≤ i + 1) ∧ Below w.heap.size w wr) ∧ k ≤ N ∧ v = .slice B (k + 1) e ∧ i = .int .i64 k) (fun _ i _ => N - (intOf i).toNat)
  case atStart => exact ⟨0, _, _, ⟨OwnR.lit1 (by decide) HO.out.1 ⟨by rw [pas_zero], by rw [HO.out.1.len]; exact hl2⟩ HO.out.2.size, HO.out.2.alloc HO.out.2.size _⟩, by omega, rfl, rfl⟩
  case round =>
    obtain ⟨k, B, e, hI, hk, rfl, rfl⟩ := hrel
    by_cases hlt : k < N
    · obtain ⟨g, A', n', c', xs, rfl, hBg, hgl, hc, ho, rfl, hl⟩ := hI.out.1.at (i := k) (by omega)
      have i1 : (0 : Int) ≤ (k : Int) := by omega
      have i2 : (k : Int) < (k : Int) + 1 := by omega
      have HOk := Lib.hid (And.intro ho hl)
      clear ho hl
      go_wp2_with fail
      refine (next_any (HOk.out.1.num (by have := HOk.out.2; rw [HOk.out.1.len] at this; exact this)) rfl rfl (by omega) hN (by omega)).mono ?_
      rintro e w3 ⟨A3, n3, c3, rfl, ho3, hb3, hl3⟩
      have HP : Hid (Own .u64 30 w.heap.size w3 A3 n3 c3 (dg W (pas N (k + 1)))) := by
        rw [pas_div] at ho3
        exact ho3.mono hI.out.2.size
      have HI3 := Lib.hid (And.intro (hI.out.1.below hb3) (bt hI.out.2 hb3))
      clear hI HOk ho3 hb3 hc
      go_wp2_with (at_builtin; (refine wpList_appR rfl (.tmp 18) (.tmp 26) rfl HE.out (t := 30) (k := .u64) (B := w.heap.size) (F := fun i xs => xs = dg W (pas N i) ∧ xs.length ≤ i + 1) rfl rfl (HI3.out.1.below ((Below.refl _ _).alloc (Nat.le_refl _) _)) (HP.out.alloc _) (by simp [go_sem]) ⟨rfl, by rw [HP.out.len]; exact hl3⟩ (by omega) (by have := HI3.out.2.size; simp; omega) ?_); intro A4 c4 w4 ho4 hb4)
      have HW := Lib.hid (And.intro ho4 ((HI3.out.2.alloc HI3.out.2.size _).trans hb4))
      clear ho4 hb4
      go_roundw
      case rel => exact ⟨k + 1, A4, c4, HW, by omega, by go_num, by go_num⟩
      case measure => simp [intOf]; omega
    · obtain rfl : k = N := by omega
      go_wp2
      go_ret2
      exact ⟨_, _, rfl, hI.out.1.imp (fun i xs hi h => ⟨h.1, by have := h.2; omega⟩), hI.out.2⟩
theorem fact_neg {z : Int} {w : World} (h0 : z < 0) : Calls Try.prog 11 #[.int .i64 z] w (Keeps (.tuple #[.slice none 0 0, .int .i64 3]) w) := by
  go_enter Try.func11, Try.ntmps11
  go_wp2_with fail
  refine (bound_neg h0).mono ?_
  rintro e w1 ⟨rfl, hb1⟩
  go_wp2
  go_ret2
  exact ⟨rfl, hb1⟩
theorem fact_big {z : Int} {w : World} (h0 : 1000 < z) : Calls Try.prog 11 #[.int .i64 z] w (Keeps (.tuple #[.slice none 0 0, .int .i64 13]) w) := by
  go_enter Try.func11, Try.ntmps11
  go_wp2_with fail
  refine (bound_big (by omega) h0).mono ?_
  rintro e w1 ⟨rfl, hb1⟩
  go_wp2
  go_ret2
  exact ⟨rfl, hb1⟩
theorem row_neg {z : Int} {w : World} (h0 : z < 0) : Calls Try.prog 10 #[.int .i64 z] w (Keeps (.tuple #[.slice none 0 0, .int .i64 3]) w) := by
  go_enter Try.func10, Try.ntmps10
  go_wp2_with fail
  refine (bound_neg h0).mono ?_
  rintro e w1 ⟨rfl, hb1⟩
  go_wp2
  go_ret2
  exact ⟨rfl, hb1⟩
theorem row_big {z : Int} {w : World} (h0 : 1000 < z) : Calls Try.prog 10 #[.int .i64 z] w (Keeps (.tuple #[.slice none 0 0, .int .i64 13]) w) := by
  go_enter Try.func10, Try.ntmps10
  go_wp2_with fail
  refine (bound_big (by omega) h0).mono ?_
  rintro e w1 ⟨rfl, hb1⟩
  go_wp2
  go_ret2
  exact ⟨rfl, hb1⟩
theorem binom_neg {z y : Int} {w : World} (h0 : z < 0) : Calls Try.prog 12 #[.int .i64 z, .int .i64 y] w (Keeps (.tuple #[.slice none 0 0, .int .i64 3]) w) := by
  go_enter Try.func12, Try.ntmps12
  go_wp2_with fail
  refine (bound_neg h0).mono ?_
  rintro e w1 ⟨rfl, hb1⟩
  go_wp2
  go_ret2
  exact ⟨rfl, hb1⟩
theorem binom_big {z y : Int} {w : World} (h0 : 1000 < z) : Calls Try.prog 12 #[.int .i64 z, .int .i64 y] w (Keeps (.tuple #[.slice none 0 0, .int .i64 13]) w) := by
  go_enter Try.func12, Try.ntmps12
  go_wp2_with fail
  refine (bound_big (by omega) h0).mono ?_
  rintro e w1 ⟨rfl, hb1⟩
  go_wp2
  go_ret2
  exact ⟨rfl, hb1⟩
end Go.Proofs.Ytajoafcondgelaa
