/-
  Walks: surdref03.small, Factorial, carried, Row.
-/
import Derived.Test.YtgiecdokjmcogaaRowA
import Derived.Test.YtgiecdokjmcogaaRef3D
namespace Go.Proofs.Ytgiecdokjmcogaa
open Go.RowKit
set_option linter.unusedVariables false

theorem small_ok {z : Int} {w : World} (h0 : 0 ≤ z) (h1 : z ≤ 1000) : Calls Try.prog 100 #[.int .i64 z] w (Keeps (.int .i64 0) w) := by
  have h2 : ¬ z < 0 := by omega
  have h3 : ¬ 1000 < z := by omega
  go_enter Try.func100, Try.ntmps100
  go_wp2
  go_ret
  exact ⟨rfl, Below.refl _ _⟩
theorem small_neg {z : Int} {w : World} (h0 : z < 0) : Calls Try.prog 100 #[.int .i64 z] w (Keeps (.int .i64 3) w) := by
  go_enter Try.func100, Try.ntmps100
  go_wp2
  go_ret
  exact ⟨rfl, Below.refl _ _⟩
theorem small_big {z : Int} {w : World} (h1 : 1000 < z) : Calls Try.prog 100 #[.int .i64 z] w (Keeps (.int .i64 13) w) := by
  have h2 : ¬ z < 0 := by omega
  go_enter Try.func100, Try.ntmps100
  go_wp2
  go_ret
  exact ⟨rfl, Below.refl _ _⟩
theorem fact3_neg {z : Int} {w : World} (h0 : z < 0) : Calls Try.prog 49 #[.int .i64 z] w (Keeps (.tuple #[.slice none 0 0, .int .i64 3]) w) := by
  go_enter Try.func49, Try.ntmps49
  go_wp2_with fail
  refine (small_neg h0).mono ?_
  rintro e w1 ⟨rfl, hb1⟩
  go_wp2
  go_ret2
  exact ⟨rfl, hb1⟩
theorem fact3_big {z : Int} {w : World} (h0 : 1000 < z) : Calls Try.prog 49 #[.int .i64 z] w (Keeps (.tuple #[.slice none 0 0, .int .i64 13]) w) := by
  go_enter Try.func49, Try.ntmps49
  go_wp2_with fail
  refine (small_big h0).mono ?_
  rintro e w1 ⟨rfl, hb1⟩
  go_wp2
  go_ret2
  exact ⟨rfl, hb1⟩
theorem row3_neg {z : Int} {w : World} (h0 : z < 0) : Calls Try.prog 50 #[.int .i64 z] w (Keeps (.tuple #[.slice none 0 0, .int .i64 3]) w) := by
  go_enter Try.func50, Try.ntmps50
  go_wp2_with fail
  refine (small_neg h0).mono ?_
  rintro e w1 ⟨rfl, hb1⟩
  go_wp2
  go_ret2
  exact ⟨rfl, hb1⟩
theorem row3_big {z : Int} {w : World} (h0 : 1000 < z) : Calls Try.prog 50 #[.int .i64 z] w (Keeps (.tuple #[.slice none 0 0, .int .i64 13]) w) := by
  go_enter Try.func50, Try.ntmps50
  go_wp2_with fail
  refine (small_big h0).mono ?_
  rintro e w1 ⟨rfl, hb1⟩
  go_wp2
  go_ret2
  exact ⟨rfl, hb1⟩

set_option maxHeartbeats 1000000 in
theorem fact3_any {N : Nat} {n' : Int} {w : World} (hn' : n' = (N : Int)) (hN : N ≤ 1000) : Calls Try.prog 49 #[.int .i64 n'] w (GNE w (fct N) (N + 1) 0) := by
  subst hn'
  have h1W : 1 < W := W_gt
  go_enter Try.func49, Try.ntmps49
  go_wp2_with fail
  refine (small_ok (by omega) (by omega)).mono ?_
  rintro e w1 ⟨rfl, hb1⟩
  go_wp2_with fail
  refine (of3_any (x := 1) (by rfl) h1W).mono ?_
  rintro e w2 ⟨A2, n2, c2, rfl, ho2, hb2, hl2⟩
  clear h1W
  go_wp2_with fail
  have HO := Lib.hid (And.intro (ho2.mono hb1.size) (bt hb1 hb2))
  clear ho2 hb1 hb2
  go_loopw [5, 6] (fun v i wr => ∃ (k : Nat) (B : Option Addr) (q e : Nat), Hid (Own .u64 25 w.heap.size wr B q e (dg W (fct (k - 1))) ∧ Below w.heap.size w wr) ∧ 2 ≤ k ∧ k ≤ max N 1 + 1 ∧ q ≤ k - 1 ∧ v = .slice B q e ∧ i = .int .i64 k) (fun _ i _ => N + 1 - (intOf i).toNat)
  case atStart => exact ⟨2, _, _, _, ⟨HO.out.1, HO.out.2⟩, by omega, by omega, hl2, rfl, rfl⟩
  case round =>
    obtain ⟨k, B, q, e, hI, hk2, hk, hq, rfl, rfl⟩ := hrel
    by_cases hlt : k ≤ N
    · have HF : Hid (fct (k - 1) * k = fct k) := by
        show _ = _
        obtain ⟨j, rfl⟩ : ∃ j, k = j + 1 := ⟨k - 1, by omega⟩
        rfl
      have hkW : Hid (k < W) := by show _ < _; rw [W_eq]; omega
      go_wp2_with fail
      refine (of3_any (x := k) (by rfl) hkW.out).mono ?_
      rintro e w3 ⟨A3, n3, c3, rfl, ho3, hb3, hl3⟩
      go_wp2_with fail
      refine (mul3_any ((hI.out.1.num hq).below hb3) (ho3.num hl3) (by omega) (by omega)).mono ?_
      rintro e w4 ⟨A4, n4, c4, rfl, ho4, hb4, hl4⟩
      go_wp2
      go_roundw
      case rel =>
        refine ⟨k + 1, A4, _, c4, ⟨?_, bt hI.out.2 (bt hb3 hb4)⟩, by omega, by omega, by omega, rfl, by go_num⟩
        rw [HF.out] at ho4
        exact ho4.mono (bt hI.out.2 hb3).size
      case measure => simp [intOf]; omega
    · have HF : Hid (fct (k - 1) = fct N) := by
        show _ = _
        by_cases h0 : N = 0
        · subst h0; obtain rfl : k = 2 := by omega
          rfl
        · congr 1; omega
      go_wp2
      go_ret2
      exact ⟨_, _, _, rfl, by rw [← HF.out]; exact hI.out.1, hI.out.2, by omega⟩

/-- the round of carried -/
def CarI (ds : List Nat) (N k c : Nat) (outs : List Nat) : Prop :=
  (k ≤ N ∧ c < 281474976710656 ∧ outs.length = N) ∧ All D (outs.take k) ∧ (∀ j, k ≤ j → nth outs j = nth ds j) ∧ val D (outs.take k) + D ^ k * c = val D (ds.take k)
theorem CarI.start (ds : List Nat) : CarI ds ds.length 0 0 ds := ⟨⟨Nat.zero_le _, by omega, rfl⟩, by simp [All], fun _ _ => rfl, by simp [val]⟩
theorem CarI.step {ds outs : List Nat} {N k c : Nat} (h : CarI ds N k c outs) (hd : All 4611686018427387904 ds) (hk : k < N) : CarI ds N (k + 1) ((c + nth ds k) / 65536) (outs.set k ((c + nth ds k) % 65536)) := by
  obtain ⟨⟨h1, h2, h3⟩, h4, h5, h6⟩ := h
  have bx := hd.nth (by omega) k
  refine ⟨⟨hk, by omega, by simpa using h3⟩, ?_, fun j hj => ?_, ?_⟩
  · rw [List.take_succ_eq_append_getElem (by simpa using (by omega : k < outs.length)), List.take_set_of_le (Nat.le_refl _)]
    refine h4.append (All.cons ?_ All.nil)
    simp
    exact Nat.mod_lt _ (by omega)
  · rw [nth, List.getElem?_set_ne (by omega)]
    exact h5 j (by omega)
  · have e : val D ((outs.set k ((c + nth ds k) % 65536)).take (k + 1)) = val D (outs.take k) + D ^ k * ((c + nth ds k) % 65536) := by
      rw [val_take_succ k (by simpa using (by omega : k < outs.length)), List.take_set_of_le (Nat.le_refl _), nth_lt (by simpa using (by omega : k < outs.length))]
      simp
    have e2 : D ^ (k + 1) * ((c + nth ds k) / 65536) + D ^ k * ((c + nth ds k) % 65536) = D ^ k * c + D ^ k * nth ds k := by
      rw [Nat.pow_succ, Nat.mul_assoc, ← Nat.mul_add, ← Nat.mul_add]
      congr 1
      exact Nat.div_add_mod _ _
    rw [e, val_take_succ' ds k]
    omega
/-- what carried gives -/
def GCar (t : TypeId) (B : Nat) (w : World) (n x : Nat) (e : Ending) (w' : World) : Prop :=
  ∃ A' n' c' es, e = .returned (.slice A' n' c') ∧ Own .i64 t B w' A' n' c' es ∧ All D es ∧ val D es = x ∧ Below B w w' ∧ n' ≤ n + 1
set_option maxHeartbeats 1000000 in
theorem carried_any {A : Option Addr} {n c B : Nat} {ds : List Nat} {w : World} (h : Own .i64 3 B w A n c ds) (hd : All 4611686018427387904 ds) (hv : val D ds < D ^ (n + 1)) (hn : n ≤ 137438953472) (hB : B ≤ w.heap.size) :
    Calls Try.prog 101 #[.slice A n c] w (GCar 3 B w n (val D ds)) := by
  have hl := h.len
  have H := Lib.hid h
  have HD := Lib.hid hd
  have HVD := Lib.hid hv
  clear hv
  have HS : Hid (CarI ds n 0 0 ds) := by show CarI _ _ _ _ _; rw [← hl]; exact CarI.start ds
  have HLn := Lib.hid hl
  have HE := Lib.hid elI
  clear h hd hl
  go_enter Try.func101, Try.ntmps101
  go_wp2_with fail
  go_loopw [3, 4] (fun cv i wr => ∃ (k cn : Nat) (outs : List Nat), Hid (CarI ds n k cn outs ∧ Own .i64 3 B wr A n c outs ∧ Below B w wr) ∧ cv = .int .i64 cn ∧ i = .int .i64 k) (fun _ i _ => n - (intOf i).toNat)
  case atStart => exact ⟨0, 0, ds, ⟨HS.out, H.out, Below.refl _ _⟩, rfl, rfl⟩
  case round =>
    obtain ⟨k, cn, outs, hI, rfl, rfl⟩ := hrel
    have hk : k ≤ n := hI.out.1.1.1
    have hcn : cn < 281474976710656 := hI.out.1.1.2.1
    by_cases hlt : k < n
    · obtain ⟨g, rfl, hBg, hgl⟩ := hI.out.2.1.form (by omega)
      have hcell := hI.out.2.1.cell hlt
      rw [hI.out.1.2.2.1 k (Nat.le_refl _)] at hcell
      have hfr := hI.out.2.1.frozen (i := k)
      have bx := HD.out.nth (by omega) k
      go_wp2
      go_roundw
      case rel => exact ⟨k + 1, _, _, ⟨hI.out.1.step HD.out hlt, hI.out.2.1.stored, hI.out.2.2.setCell hBg _⟩, by go_num, by go_num⟩
      case measure => simp [intOf]; omega
    · obtain rfl : k = n := by omega
      have HV : Hid (val D outs + D ^ k * cn = val D ds) := by
        show _ = _
        have := hI.out.1.2.2.2
        rw [List.take_of_length_le (by rw [hI.out.1.1.2.2]; exact Nat.le_refl _), List.take_of_length_le (by rw [HLn.out]; exact Nat.le_refl _)] at this
        exact this
      have HA : Hid (All D outs) := by
        show All _ _
        have := hI.out.1.2.1
        rwa [List.take_of_length_le (by rw [hI.out.1.1.2.2]; exact Nat.le_refl _)] at this
      by_cases h0 : cn = 0
      · subst h0
        go_wp2
        go_ret
        exact ⟨_, _, _, _, rfl, hI.out.2.1, HA.out, by have := HV.out; omega, hI.out.2.2, by omega⟩
      · have d0 : decide ((0 : Int) < (cn : Int)) = true := by simp; omega
        have hbs := Nat.le_trans hB hI.out.2.2.size
        go_wp2_with (at_builtin; (refine wpList_app rfl (.tmp 26) (.tmp 28) rfl HE.out (t := 3) (k := .i64) (B := B) (xs := outs) (ys := [cn]) rfl rfl (hI.out.2.1.alloc _) (Rd.lit1 _ cn) (by omega) (by simp; omega) ?_); intro A4 c4 w4 ho4 hb4 _ _)
        go_ret
        have hcD : cn < D := by
          have h1 := HV.out
          have h2 := HVD.out
          rw [Nat.pow_succ] at h2
          exact Nat.lt_of_mul_lt_mul_left (a := D ^ k) (by omega)
        refine ⟨_, _, _, _, rfl, ho4, HA.out.append (All.cons hcD All.nil), ?_, ((hI.out.2.2.alloc hbs _).trans hb4), by omega⟩
        rw [val_append, hI.out.1.1.2.2]
        simp only [val, Nat.mul_zero, Nat.add_zero]
        exact HV.out
end Go.Proofs.Ytgiecdokjmcogaa
