/-
  The reference of layer 1: surdref01.bit, Divide.
-/
import Derived.Test.YtfpogghlcodncaaDoorRef1C
namespace Go.Proofs.YtfpogghlcodncaaDoor
open Go.RowKit
set_option linter.unusedVariables false

theorem nth_val {b : Nat} {xs : List Nat} (h : All b xs) (hb : 1 < b) (j : Nat) : nth xs j = val b xs / b ^ j % b := by
  by_cases hj : j < xs.length
  · have := nth_wds (b := b) (n := xs.length) (x := val b xs) hj
    rwa [wds_val h] at this
  · have h1 := val_lt h
    have h2 : b ^ xs.length ≤ b ^ j := Nat.pow_le_pow_right (by omega) (by omega)
    rw [nth_ge (by omega), Nat.div_eq_of_lt (by omega)]
    simp
theorem bit_mod (x r : Nat) (hr : r < 16) : x % D / 2 ^ r % 2 = x / 2 ^ r % 2 := by
  have h := Nat.testBit_mod_two_pow x 16 r
  rw [decide_eq_true hr, Bool.true_and, Nat.testBit_eq_decide_div_mod_eq, Nat.testBit_eq_decide_div_mod_eq, decide_eq_decide] at h
  have e : D = 2 ^ 16 := rfl
  rw [e]
  omega
theorem D_two (j : Nat) : D ^ j = 2 ^ (16 * j) := by rw [D_eq, show (65536 : Nat) = 2 ^ 16 from rfl, ← Nat.pow_mul]
theorem nth_bit {xs : List Nat} (h : All D xs) (i : Nat) : nth xs (i / 16) / 2 ^ (i % 16) % 2 = val D xs / 2 ^ i % 2 := by
  rw [nth_val h D_gt, bit_mod _ _ (by omega), Nat.div_div_eq_div_mul, D_two, ← Nat.pow_add]
  congr 3
  omega

set_option maxHeartbeats 400000 in
theorem bit1_raw {A : Option Addr} {n c i : Nat} {i' : Int} {ds : List Nat} {w : World} (h : Rd .i64 w A n c ds) (hd : All D ds) (hi' : i' = (i : Int)) (hn : n ≤ 1099511627776) (hi : i ≤ 17592186044416) :
    Calls Tryd.prog 50 #[.slice A n c, .int .i64 i'] w (fun e w' => e = .returned (.int .i64 ((val D ds / 2 ^ i % 2 : Nat) : Int)) ∧ w = w') := by
  subst hi'
  have HB := Lib.hid (nth_bit hd i)
  have hb1 : nth ds (i / 16) < 65536 := hd.nth D_pos _
  have c1 := Lib.hid (digit1_any (i := i / 16) (i' := (i : Int) / 16) h (by omega) hn)
  clear h hd
  generalize val D ds / 2 ^ i % 2 = z at *
  go_enter Tryd.func50, Tryd.ntmps50
  go_wp2_with fail
  refine c1.out.mono ?_
  rintro e w' ⟨rfl, rfl⟩
  go_wp2
  go_loop [5, 6] (fun nv kv => ∃ k u : Nat, Hid (u = nth ds (i / 16) / 2 ^ k) ∧ k ≤ i % 16 ∧ u < 65536 ∧ nv = .int .i64 u ∧ kv = .int .i64 k) (fun _ kv => 16 - (intOf kv).toNat)
  case atStart => exact ⟨0, nth ds (i / 16), by show _ = _; simp, by omega, hb1, rfl, rfl⟩
  case round =>
    obtain ⟨k, u, hI, hk, hu, rfl, rfl⟩ := hrel
    by_cases hlt : k < i % 16
    · have q1 : (k : Int) < (i : Int) % 16 := by omega
      go_wp2
      go_round
      case rel =>
        refine ⟨k + 1, u / 2, ?_, by omega, by omega, by go_num, by go_num⟩
        show _ = _
        rw [hI.out, Nat.pow_succ, Nat.div_div_eq_div_mul]
      case measure => simp [intOf]; omega
    · have q1 : ¬ (k : Int) < (i : Int) % 16 := by omega
      obtain rfl : k = i % 16 := by omega
      have HU : Hid (u % 2 = z) := by show _ = _; rw [hI.out, HB.out]
      go_wp2
      go_ret
      exact ⟨ret_int (by have := HU.out; omega), rfl⟩
theorem bit1_any {v : Value} {x L i : Nat} {i' : Int} {w : World} (h : Dgs w v x L) (hi' : i' = (i : Int)) (hL : L ≤ 1099511627776) (hi : i ≤ 17592186044416) :
    Calls Tryd.prog 50 #[v, .int .i64 i'] w (fun e w' => e = .returned (.int .i64 ((x / 2 ^ i % 2 : Nat) : Int)) ∧ w = w') := by
  obtain ⟨A, n, c, xs, rfl, h1, h2, h3, h4⟩ := h
  subst h3
  exact bit1_raw h1 h2 hi' (by omega) hi

/-- the bits from k on are divided -/
def DivJ (x y n k R : Nat) (qs : List Nat) : Prop := All D qs ∧ qs.length = n ∧ val D qs = x / 2 ^ k / y * 2 ^ k ∧ R = x / 2 ^ k % y
theorem half (x k : Nat) : x / 2 ^ k = 2 * (x / 2 ^ (k + 1)) + x / 2 ^ k % 2 := by
  rw [Nat.pow_succ, ← Nat.div_div_eq_div_mul]; omega
theorem DivJ.stay {x y n k R : Nat} {qs : List Nat} (h : DivJ x y n (k + 1) R qs) (hlt : 2 * R + x / 2 ^ k % 2 < y) : DivJ x y n k (2 * R + x / 2 ^ k % 2) qs := by
  obtain ⟨h1, h2, h3, h4⟩ := h
  have e := half x k
  have e1 := Nat.div_add_mod (x / 2 ^ (k + 1)) y
  have e2 : x / 2 ^ k = y * (2 * (x / 2 ^ (k + 1) / y)) + (2 * R + x / 2 ^ k % 2) := by
    rw [← h4] at e1
    rw [Nat.mul_left_comm]
    omega
  have d1 : x / 2 ^ k / y = 2 * (x / 2 ^ (k + 1) / y) := by
    rw [e2, Nat.mul_add_div (by omega), Nat.div_eq_of_lt hlt]
    omega
  have d2 : x / 2 ^ k % y = 2 * R + x / 2 ^ k % 2 := by
    generalize 2 * R + x / 2 ^ k % 2 = s at *
    rw [e2, Nat.mul_add_mod, Nat.mod_eq_of_lt hlt]
  refine ⟨h1, h2, ?_, d2.symm⟩
  rw [h3, d1, Nat.pow_succ, Nat.mul_comm (2 ^ k) 2, ← Nat.mul_assoc, Nat.mul_comm _ 2]
theorem DivJ.take {x y n k R : Nat} {qs : List Nat} (h : DivJ x y n (k + 1) R qs) (hR : R < y) (hk : k < 16 * n) (hlt : y ≤ 2 * R + x / 2 ^ k % 2) :
    DivJ x y n k (2 * R + x / 2 ^ k % 2 - y) (qs.set (k / 16) (nth qs (k / 16) + 2 ^ (k % 16))) ∧ nth qs (k / 16) + 2 ^ (k % 16) < 65536 ∧ 2 * R + x / 2 ^ k % 2 - y < y := by
  obtain ⟨h1, h2, h3, h4⟩ := h
  have e := half x k
  have e1 := Nat.div_add_mod (x / 2 ^ (k + 1)) y
  have hb : x / 2 ^ k % 2 < 2 := Nat.mod_lt _ (by omega)
  have hs : 2 * R + x / 2 ^ k % 2 - y < y := by omega
  have e2 : x / 2 ^ k = y * (2 * (x / 2 ^ (k + 1) / y) + 1) + (2 * R + x / 2 ^ k % 2 - y) := by
    rw [← h4] at e1
    rw [Nat.mul_add, Nat.mul_left_comm]
    omega
  have d1 : x / 2 ^ k / y = 2 * (x / 2 ^ (k + 1) / y) + 1 := by
    rw [e2, Nat.mul_add_div (by omega), Nat.div_eq_of_lt hs]
  have d2 : x / 2 ^ k % y = 2 * R + x / 2 ^ k % 2 - y := by
    generalize 2 * R + x / 2 ^ k % 2 - y = s at *
    rw [e2, Nat.mul_add_mod, Nat.mod_eq_of_lt hs]
  have hdig : nth qs (k / 16) + 2 ^ (k % 16) < 65536 := by
    have f1 := nth_bit h1 k
    have f2 : val D qs / 2 ^ k % 2 = 0 := by
      rw [h3, Nat.pow_succ, Nat.mul_comm (2 ^ k) 2, ← Nat.mul_assoc, Nat.mul_div_cancel _ (Nat.two_pow_pos k)]
      omega
    rw [f2] at f1
    have f3 : nth qs (k / 16) < 65536 := h1.nth D_pos _
    generalize nth qs (k / 16) = u at *
    have f4 : k % 16 < 16 := by omega
    generalize k % 16 = r at *
    have f5 : (2 : Nat) ^ r * 2 ^ (16 - r) = 65536 := by rw [← Nat.pow_add, show r + (16 - r) = 16 by omega]
    have f7 : (2 : Nat) ^ (16 - r) = 2 * 2 ^ (15 - r) := by rw [← Nat.pow_succ', show (15 - r).succ = 16 - r by omega]
    have f6 : u / 2 ^ r < 2 ^ (16 - r) := Nat.div_lt_of_lt_mul (by rw [f5]; exact f3)
    have f8 : u / 2 ^ r + 2 ≤ 2 ^ (16 - r) := by omega
    have f9 : 2 ^ r * (u / 2 ^ r + 2) ≤ 65536 := by rw [← f5]; exact Nat.mul_le_mul_left _ f8
    have g1 := Nat.div_add_mod u (2 ^ r)
    have g2 := Nat.mod_lt u (Nat.two_pow_pos r)
    rw [Nat.mul_add] at f9
    omega
  refine ⟨⟨h1.set hdig _, by simpa using h2, ?_, d2.symm⟩, hdig, hs⟩
  have s := val_setD (b := D) (xs := qs) (k := k / 16) (x := nth qs (k / 16) + 2 ^ (k % 16)) (by omega)
  have e3 : D ^ (k / 16) * 2 ^ (k % 16) = 2 ^ k := by
    rw [D_two, ← Nat.pow_add]; congr 1; omega
  rw [Nat.mul_add, e3] at s
  have e4 : val D (qs.set (k / 16) (nth qs (k / 16) + 2 ^ (k % 16))) = val D qs + 2 ^ k := by omega
  rw [e4, h3, d1, Nat.pow_succ, Nat.add_mul, Nat.one_mul, Nat.mul_comm (2 ^ k) 2, ← Nat.mul_assoc, Nat.mul_comm _ 2]
theorem DivJ.done {x y n R : Nat} {qs : List Nat} (h : DivJ x y n 0 R qs) : All D qs ∧ qs.length = n ∧ val D qs = x / y ∧ R = x % y := by
  obtain ⟨h1, h2, h3, h4⟩ := h
  simp at h3 h4
  exact ⟨h1, h2, h3, h4⟩

theorem ownlt {k : IntKind} {t : TypeId} {B n c g : Nat} {w : World} {xs : List Nat} (h : Own k t B w (some ⟨g, 0, none⟩) n c xs) : g < w.heap.size := (World.ownsRow.lt h g rfl).2
/-- new digits of two numbers -/
def GG2 (w : World) (x L y M : Nat) (e : Ending) (w' : World) : Prop :=
  ∃ A n c A2 n2 c2 xs ys, e = .returned (.tuple #[.slice A n c, .slice A2 n2 c2]) ∧ Own .i64 3 w.heap.size w' A n c xs ∧ All D xs ∧ val D xs = x ∧ n ≤ L ∧ Own .i64 3 w.heap.size w' A2 n2 c2 ys ∧ All D ys ∧ val D ys = y ∧ n2 ≤ M ∧ Below w.heap.size w w'

theorem Dgs.keep (w : World) {w' : World} {v : Value} {x L : Nat} (h : Dgs w v x L) (hb : Below w.heap.size w w') : Dgs w' v x L := h.below hb
set_option maxHeartbeats 4000000 in
set_option maxRecDepth 100000 in
theorem divide1_any {A A2 : Option Addr} {n c m c2 y : Nat} {ds es : List Nat} {w : World} (h : Rd .i64 w A n c ds) (h' : Rd .i64 w A2 m c2 es) (hx : All D ds) (hy : All D es) (hv : val D es = y) (hy0 : 0 < y) (hn : n ≤ 137438953472) (hm : m ≤ 137438953472) :
    Calls Tryd.prog 45 #[.slice A n c, .slice A2 m c2] w (GG2 w (val D ds / y) n (val D ds % y) (m + 1)) := by
  have HYD : Dgs w (.slice A2 m c2) y m := ⟨A2, m, c2, es, rfl, h', hy, hv, Nat.le_refl _⟩
  have HXD : Dgs w (.slice A n c) (val D ds) n := ⟨A, n, c, ds, rfl, h, hx, rfl, Nat.le_refl _⟩
  have hyb : Hid (2 * y < D ^ (m + 1)) := by
    show _ < _
    have := HYD.lt
    rw [Nat.pow_succ, D_eq] at *
    omega
  have hxb := Lib.hid HXD.lt
  have HY := Lib.hid HYD
  have HX := Lib.hid HXD
  have HE := Lib.hid elI
  generalize val D ds = x at *
  clear h h' hx hy hv HYD HXD
  go_enter Tryd.func45, Tryd.ntmps45
  go_wp2_with (at_make; refine wpList_mk rfl (.tmp 12) (.tmp 12) rfl HE.out w.heap.size n rfl rfl rfl rfl (by omega) (Nat.le_refl _) ?_; intro w1 ho1 hg1 hb1)
  obtain ⟨S, hS⟩ : ∃ S, S = w1.heap.size := ⟨_, rfl⟩
  have HO : Hid (Own .i64 3 w.heap.size w1 (some ⟨w.heap.size, 0, none⟩) n n (List.replicate n 0) ∧ Below w.heap.size w w1 ∧ w.heap.size < S) := by
    refine ⟨ho1, hb1, ?_⟩
    rw [hS]
    exact ownlt ho1
  clear ho1 hb1 hg1
  go_loopw [7, 8] (fun rv iv wr => ∃ (k R : Nat) (B : Option Addr) (q e : Nat) (qs rs : List Nat), Hid (DivJ x y n k R qs ∧ R < y ∧ Own .i64 3 w.heap.size wr (some ⟨w.heap.size, 0, none⟩) n n qs ∧ Own .i64 3 S wr B q e rs ∧ All D rs ∧ val D rs = R ∧ q ≤ m + 1 ∧ Below w.heap.size w wr ∧ S ≤ wr.heap.size) ∧ k ≤ 16 * n ∧ rv = .slice B q e ∧ iv = .int .i64 ((k : Int) - 1)) (fun _ iv _ => (intOf iv + 1).toNat)
  case atStart =>
    have hz : x / 2 ^ (16 * n) = 0 := Nat.div_eq_of_lt (by rw [← D_two]; exact hxb.out)
    refine ⟨16 * n, 0, none, 0, 0, _, [], ⟨⟨All.replicate D_pos, List.length_replicate, ?_, ?_⟩, hy0, HO.out.1, Own.nil, All.nil, rfl, by omega, HO.out.2.1, by omega⟩, Nat.le_refl _, rfl, by go_num⟩
    · rw [val_replicate, hz]; simp
    · rw [hz]; simp
  case round =>
    obtain ⟨k1, R, B, q, e, qs, rs, hI, hk, rfl, rfl⟩ := hrel
    by_cases hk0 : 0 < k1
    · obtain ⟨k, rfl⟩ : ∃ k, k1 = k + 1 := ⟨k1 - 1, by omega⟩
      have em : ((k + 1 : Nat) : Int) - 1 = (k : Int) := by omega
      rw [em]
      clear em
      obtain ⟨R2, HR2⟩ : ∃ R2, Hid (R2 = 2 * R + x / 2 ^ k % 2) := ⟨_, rfl⟩
      have hR : R < y := hI.out.2.1
      obtain ⟨d1, d2, d3, d4, d5, d6, d7, d8, d9⟩ := hI.out
      have C1 := Lib.hid (plus1_any (w := wr) (K := m + 1) (d4.dig d5 d6 d7) (d4.dig d5 d6 d7) (Nat.le_refl _) (Nat.le_refl _) (by omega) (by have := hyb.out; omega))
      clear d1 d2 d3 d4 d5 d6 d7 d8 d9
      go_wp2_with fail
      refine C1.out.mono ?_
      rintro e w2 ⟨A3, n3, c3, xs3, rfl, o3, a3, v3, hb3, l3⟩
      have C2 := Lib.hid (bit1_any (w := w2) (i := k) (i' := (k : Int)) (HX.out.below (bt hI.out.2.2.2.2.2.2.2.1 hb3)) rfl (by omega) (by omega))
      have H2 : Hid (Own .i64 3 S w2 A3 n3 c3 xs3 ∧ All D xs3 ∧ val D xs3 = R + R ∧ n3 ≤ m + 1 ∧ Own .i64 3 w.heap.size w2 (some ⟨w.heap.size, 0, none⟩) n n qs ∧ Below w.heap.size w w2 ∧ S ≤ w2.heap.size) := by
        obtain ⟨d1, d2, d3, d4, d5, d6, d7, d8, d9⟩ := hI.out
        exact ⟨o3.mono d9, a3, v3, l3, d3.below hb3, bt d8 hb3, Nat.le_trans d9 hb3.size⟩
      clear o3 a3 v3 hb3 l3 C1
      go_wp2_with fail
      refine C2.out.mono ?_
      rintro e w' ⟨rfl, rfl⟩
      have hbt : x / 2 ^ k % 2 = 0 ∨ x / 2 ^ k % 2 = 1 := by omega
      rcases hbt with hbt | hbt
      · have HT : Hid (Own .i64 3 S w2 A3 n3 c3 xs3 ∧ All D xs3 ∧ val D xs3 = R2 ∧ n3 ≤ m + 1 ∧ Own .i64 3 w.heap.size w2 (some ⟨w.heap.size, 0, none⟩) n n qs ∧ Below w.heap.size w w2 ∧ S ≤ w2.heap.size) := by
          have h := H2.out
          have e : R + R = R2 := by rw [HR2.out, hbt]; omega
          rw [e] at h
          exact h
        rw [hbt]
        clear hbt C2 H2
        obtain ⟨t1, t2, t3, t4, t5, t6, t7⟩ := HT.out
        have CC := Lib.hid (compare1_any (w := w2) (t1.dig t2 t3 t4) (Dgs.keep w HY.out t6) (by omega) (by omega))
        go_wp2_with fail
        refine CC.out.mono ?_
        rintro e w' ⟨rfl, rfl⟩
        by_cases hge : R2 < y
        · have ec : cmpN R2 y = -1 := by rw [cmpN, if_pos hge]
          have HS : Hid (DivJ x y n k R2 qs) := by show DivJ _ _ _ _ _ _; have := hI.out.1.stay (by rw [← HR2.out]; exact hge); rw [← HR2.out] at this; exact this
          rw [ec]
          clear t1 t2 t3 t4 t5 t6 t7 CC
          go_wp2
          go_roundw
          case rel =>
            obtain ⟨t1, t2, t3, t4, t5, t6, t7⟩ := HT.out
            exact ⟨k, R2, _, _, _, _, _, ⟨HS.out, hge, t5, t1, t2, t3, t4, t6, t7⟩, by omega, rfl, by go_num⟩
          case measure => simp [intOf]
        · obtain ⟨z, hz, hz0⟩ : ∃ z : Int, cmpN R2 y = z ∧ 0 ≤ z := ⟨_, rfl, by rw [cmpN, if_neg hge]; split <;> omega⟩
          rw [hz]
          have CM := Lib.hid (minus1_any (w := w2) (t1.dig t2 t3 t4) (Dgs.keep w HY.out t6) (by omega) (by omega) (Nat.le_of_not_lt hge))
          have HK := Lib.hid (hI.out.1.take hI.out.2.1 (by omega) (by rw [← HR2.out]; exact Nat.le_of_not_lt hge))
          rw [← HR2.out] at HK
          clear t1 t2 t3 t4 t5 t6 t7 CC hz
          go_wp2_with fail
          refine CM.out.mono ?_
          rintro e w5 ⟨A5, n5, c5, xs5, rfl, o5, a5, v5, hb5, l5⟩
          have HF : Hid (Own .i64 3 S w5 A5 n5 c5 xs5 ∧ All D xs5 ∧ val D xs5 = R2 - y ∧ n5 ≤ m + 1 ∧ Own .i64 3 w.heap.size w5 (some ⟨w.heap.size, 0, none⟩) n n qs ∧ Below w.heap.size w w5 ∧ S ≤ w5.heap.size) := by
            obtain ⟨t1, t2, t3, t4, t5, t6, t7⟩ := HT.out
            exact ⟨o5.mono t7, a5, v5, l5, t5.below hb5, bt t6 hb5, Nat.le_trans t7 hb5.size⟩
          clear o5 a5 v5 hb5 l5 CM
          go_wp2
          go_loop [9, 10] (fun nv jv => ∃ j p : Nat, Hid (p = 2 ^ j) ∧ j ≤ k % 16 ∧ p ≤ 32768 ∧ nv = .int .i64 p ∧ jv = .int .i64 j) (fun _ jv => 16 - (intOf jv).toNat)
          case atStart => exact ⟨0, 1, rfl, by omega, by omega, rfl, rfl⟩
          case round =>
            obtain ⟨j, p, hP, hj, hp, rfl, rfl⟩ := hrel
            by_cases hlt : j < k % 16
            · have q1 : (j : Int) < (k : Int) % 16 := by omega
              have HP2 : Hid (p * 2 = 2 ^ (j + 1) ∧ p * 2 ≤ 32768) := by
                refine ⟨by rw [hP.out, Nat.pow_succ], ?_⟩
                rw [hP.out, ← Nat.pow_succ]
                have : 2 ^ (j + 1) ≤ 2 ^ 15 := Nat.pow_le_pow_right (by omega) (by omega)
                omega
              go_wp2
              go_round
              case rel => exact ⟨j + 1, p * 2, HP2.out.1, by omega, HP2.out.2, by go_num, by go_num⟩
              case measure => simp [intOf]; omega
            · have q1 : ¬ (j : Int) < (k : Int) % 16 := by omega
              obtain rfl : j = k % 16 := by omega
              have hcell := HF.out.2.2.2.2.1.cell (i := k / 16) (by omega)
              have hfr := HF.out.2.2.2.2.1.frozen (i := k / 16)
              have i0 : (0 : Int) ≤ (k : Int) / 16 := by omega
              have i1 : (k : Int) / 16 < (n : Int) := by omega
              have i2 : ((k : Int) / 16).toNat = k / 16 := by omega
              have hu : nth qs (k / 16) + p < 65536 := by rw [hP.out]; exact HK.out.2.1
              have HK1 : Hid (DivJ x y n k (R2 - y) (qs.set (k / 16) (nth qs (k / 16) + p)) ∧ R2 - y < y) := by
                refine ⟨?_, HK.out.2.2⟩
                rw [hP.out]; exact HK.out.1
              go_wp2
              go_roundw
              case rel =>
                obtain ⟨t1, t2, t3, t4, t5, t6, t7⟩ := HF.out
                refine ⟨k, R2 - y, _, _, _, _, _, ⟨HK1.out.1, HK1.out.2, ?_, ownsRow_setCell_below t1 (a := ⟨w.heap.size, k / 16, none⟩) (by show w.heap.size < S; exact HO.out.2.2) _, t2, t3, t4, t6.setCell (Nat.le_refl _) _, by simpa using t7⟩, by omega, rfl, by go_num⟩
                have := t5.stored (i := k / 16) (x := nth qs (k / 16) + p)
                rw [Int.natCast_add] at this
                exact this
              case measure => simp [intOf]
      · obtain ⟨t1, t2, t3, t4, t5, t6, t7⟩ := H2.out
        have C3 := Lib.hid (plus1_any (w := w2.alloc (.cells #[.int .i64 1] 3)) (v2 := .slice (some ⟨w2.heap.size, 0, none⟩) 1 1) (y := 1) (M := 1) (K := m + 1) ((t1.alloc _).dig t2 t3 t4) ⟨_, 1, 1, [1], rfl, Rd.lit1 w2 1, All.cons D_gt All.nil, by simp [val], Nat.le_refl _⟩ (Nat.le_refl _) (by omega) (by omega) (by have := hyb.out; omega))
        clear t1 t2 t3 t4 t5 t6 t7 C2
        rw [hbt]
        go_wp2_with fail
        refine C3.out.mono ?_
        rintro e w4 ⟨A4, n4, c4, xs4, rfl, o4, a4, v4, hb4, l4⟩
        have HT : Hid (Own .i64 3 S w4 A4 n4 c4 xs4 ∧ All D xs4 ∧ val D xs4 = R2 ∧ n4 ≤ m + 1 ∧ Own .i64 3 w.heap.size w4 (some ⟨w.heap.size, 0, none⟩) n n qs ∧ Below w.heap.size w w4 ∧ S ≤ w4.heap.size) := by
          obtain ⟨t1, t2, t3, t4, t5, t6, t7⟩ := H2.out
          have e : R + R + 1 = R2 := by rw [HR2.out, hbt]; omega
          have s1 : S ≤ (w2.alloc (.cells #[.int .i64 1] 3)).heap.size := by simp; omega
          rw [e] at v4
          exact ⟨o4.mono s1, a4, v4, l4, (t5.alloc _).below hb4, bt (t6.alloc t6.size _) hb4, Nat.le_trans s1 hb4.size⟩
        clear hbt C3 H2 o4 a4 v4 hb4 l4
        obtain ⟨t1, t2, t3, t4, t5, t6, t7⟩ := HT.out
        have CC := Lib.hid (compare1_any (w := w4) (t1.dig t2 t3 t4) (Dgs.keep w HY.out t6) (by omega) (by omega))
        go_wp2_with fail
        refine CC.out.mono ?_
        rintro e w' ⟨rfl, rfl⟩
        by_cases hge : R2 < y
        · have ec : cmpN R2 y = -1 := by rw [cmpN, if_pos hge]
          have HS : Hid (DivJ x y n k R2 qs) := by show DivJ _ _ _ _ _ _; have := hI.out.1.stay (by rw [← HR2.out]; exact hge); rw [← HR2.out] at this; exact this
          rw [ec]
          clear t1 t2 t3 t4 t5 t6 t7 CC
          go_wp2
          go_roundw
          case rel =>
            obtain ⟨t1, t2, t3, t4, t5, t6, t7⟩ := HT.out
            exact ⟨k, R2, _, _, _, _, _, ⟨HS.out, hge, t5, t1, t2, t3, t4, t6, t7⟩, by omega, rfl, by go_num⟩
          case measure => simp [intOf]
        · obtain ⟨z, hz, hz0⟩ : ∃ z : Int, cmpN R2 y = z ∧ 0 ≤ z := ⟨_, rfl, by rw [cmpN, if_neg hge]; split <;> omega⟩
          rw [hz]
          have CM := Lib.hid (minus1_any (w := w4) (t1.dig t2 t3 t4) (Dgs.keep w HY.out t6) (by omega) (by omega) (Nat.le_of_not_lt hge))
          have HK := Lib.hid (hI.out.1.take hI.out.2.1 (by omega) (by rw [← HR2.out]; exact Nat.le_of_not_lt hge))
          rw [← HR2.out] at HK
          clear t1 t2 t3 t4 t5 t6 t7 CC hz
          go_wp2_with fail
          refine CM.out.mono ?_
          rintro e w5 ⟨A5, n5, c5, xs5, rfl, o5, a5, v5, hb5, l5⟩
          have HF : Hid (Own .i64 3 S w5 A5 n5 c5 xs5 ∧ All D xs5 ∧ val D xs5 = R2 - y ∧ n5 ≤ m + 1 ∧ Own .i64 3 w.heap.size w5 (some ⟨w.heap.size, 0, none⟩) n n qs ∧ Below w.heap.size w w5 ∧ S ≤ w5.heap.size) := by
            obtain ⟨t1, t2, t3, t4, t5, t6, t7⟩ := HT.out
            exact ⟨o5.mono t7, a5, v5, l5, t5.below hb5, bt t6 hb5, Nat.le_trans t7 hb5.size⟩
          clear o5 a5 v5 hb5 l5 CM
          go_wp2
          go_loop [9, 10] (fun nv jv => ∃ j p : Nat, Hid (p = 2 ^ j) ∧ j ≤ k % 16 ∧ p ≤ 32768 ∧ nv = .int .i64 p ∧ jv = .int .i64 j) (fun _ jv => 16 - (intOf jv).toNat)
          case atStart => exact ⟨0, 1, rfl, by omega, by omega, rfl, rfl⟩
          case round =>
            obtain ⟨j, p, hP, hj, hp, rfl, rfl⟩ := hrel
            by_cases hlt : j < k % 16
            · have q1 : (j : Int) < (k : Int) % 16 := by omega
              have HP2 : Hid (p * 2 = 2 ^ (j + 1) ∧ p * 2 ≤ 32768) := by
                refine ⟨by rw [hP.out, Nat.pow_succ], ?_⟩
                rw [hP.out, ← Nat.pow_succ]
                have : 2 ^ (j + 1) ≤ 2 ^ 15 := Nat.pow_le_pow_right (by omega) (by omega)
                omega
              go_wp2
              go_round
              case rel => exact ⟨j + 1, p * 2, HP2.out.1, by omega, HP2.out.2, by go_num, by go_num⟩
              case measure => simp [intOf]; omega
            · have q1 : ¬ (j : Int) < (k : Int) % 16 := by omega
              obtain rfl : j = k % 16 := by omega
              have hcell := HF.out.2.2.2.2.1.cell (i := k / 16) (by omega)
              have hfr := HF.out.2.2.2.2.1.frozen (i := k / 16)
              have i0 : (0 : Int) ≤ (k : Int) / 16 := by omega
              have i1 : (k : Int) / 16 < (n : Int) := by omega
              have i2 : ((k : Int) / 16).toNat = k / 16 := by omega
              have hu : nth qs (k / 16) + p < 65536 := by rw [hP.out]; exact HK.out.2.1
              have HK1 : Hid (DivJ x y n k (R2 - y) (qs.set (k / 16) (nth qs (k / 16) + p)) ∧ R2 - y < y) := by
                refine ⟨?_, HK.out.2.2⟩
                rw [hP.out]; exact HK.out.1
              go_wp2
              go_roundw
              case rel =>
                obtain ⟨t1, t2, t3, t4, t5, t6, t7⟩ := HF.out
                refine ⟨k, R2 - y, _, _, _, _, _, ⟨HK1.out.1, HK1.out.2, ?_, ownsRow_setCell_below t1 (a := ⟨w.heap.size, k / 16, none⟩) (by show w.heap.size < S; exact HO.out.2.2) _, t2, t3, t4, t6.setCell (Nat.le_refl _) _, by simpa using t7⟩, by omega, rfl, by go_num⟩
                have := t5.stored (i := k / 16) (x := nth qs (k / 16) + p)
                rw [Int.natCast_add] at this
                exact this
              case measure => simp [intOf]
    · obtain rfl : k1 = 0 := by omega
      go_wp2
      go_ret2
      obtain ⟨d1, d2, d3, d4, d5, d6, d7, d8, d9⟩ := hI.out
      obtain ⟨f1, f2, f3, f4⟩ := d1.done
      exact ⟨_, _, _, _, _, _, _, _, rfl, d3, f1, f3, Nat.le_refl _, d4.mono (Nat.le_of_lt HO.out.2.2), d5, by rw [d6, f4], d7, d8⟩
end Go.Proofs.YtfpogghlcodncaaDoor
