/-
  The reference of layer 3: surdref03.Number, Norm, Same, times, plus.
-/
import Derived.Test.YtikinbnmphnfeaaRef3A
namespace Go.Proofs.Ytikinbnmphnfeaa
open Go.RowKit
set_option linter.unusedVariables false

/-- i digits are done: the words, the word at hand, what is carried -/
def NumI (ds : List Nat) (i cn wd : Nat) (outs : List Nat) : Prop :=
  All W outs ∧ outs.length = i / 4 ∧ wd < D ^ (i % 4) ∧ val W outs + W ^ (i / 4) * wd + D ^ i * cn = val D (ds.take i)
def NumC (n i cn : Nat) : Prop := i ≤ (n + 6) / 4 * 4 ∧ cn < 140737488355328 ∧ (n ≤ i → cn * 65536 ^ (i - n) < 140737488355328)
theorem NumC.step {n i cn d : Nat} (h : NumC n i cn) (hgo : i < n ∨ 0 < cn ∨ i % 4 ≠ 0) (hd : d < 4611686018427387904) (hd0 : n ≤ i → d = 0) : NumC n (i + 1) ((cn + d) / 65536) := by
  obtain ⟨h1, h2, h3⟩ := h
  by_cases hlt : i < n
  · refine ⟨by omega, by omega, fun h => ?_⟩
    have : i + 1 - n = 0 := by omega
    rw [this, Nat.pow_zero, Nat.mul_one]
    omega
  · have e0 := hd0 (by omega)
    subst e0
    have h3' := h3 (by omega)
    have hp : 0 < 65536 ^ (i - n) := Nat.pow_pos (by omega)
    refine ⟨?_, by omega, fun _ => ?_⟩
    · by_cases hc : cn = 0
      · omega
      · have h5 : ¬ 3 ≤ i - n := fun h3 => by
          have h4 : 65536 ^ 3 ≤ 65536 ^ (i - n) := Nat.pow_le_pow_right (by omega) h3
          have h5 : 1 * 65536 ^ 3 ≤ cn * 65536 ^ (i - n) := Nat.mul_le_mul (by omega) h4
          omega
        omega
    · rw [show i + 1 - n = (i - n) + 1 by omega, Nat.pow_succ, Nat.add_zero, Nat.mul_comm (65536 ^ (i - n)), ← Nat.mul_assoc]
      exact Nat.lt_of_le_of_lt (Nat.mul_le_mul_right _ (Nat.div_mul_le_self _ _)) h3'
theorem W_pow (i : Nat) : W ^ (i / 4) * D ^ (i % 4) = D ^ i := by
  rw [W_D, ← Nat.pow_mul, ← Nat.pow_add]; congr 1; omega
theorem NumI.core {ds outs : List Nat} {i cn wd : Nat} (h : NumI ds i cn wd outs) :
    val W outs + W ^ (i / 4) * (wd + (cn + nth ds i) % D * D ^ (i % 4)) + D ^ (i + 1) * ((cn + nth ds i) / D) = val D (ds.take (i + 1)) ∧ wd + (cn + nth ds i) % D * D ^ (i % 4) < D ^ (i % 4) * D := by
  obtain ⟨h1, h2, h3, h5⟩ := h
  rw [val_take_succ' ds i, ← h5]
  have e1 := Nat.mod_add_div (cn + nth ds i) D
  have e2 := Nat.mod_lt (cn + nth ds i) D_pos
  generalize (cn + nth ds i) % D = r at *
  generalize (cn + nth ds i) / D = q at *
  have e3 := W_pow i
  have e4 : W ^ (i / 4) * (wd + r * D ^ (i % 4)) = W ^ (i / 4) * wd + D ^ i * r := by
    rw [Nat.mul_add, Nat.mul_comm r, ← Nat.mul_assoc, e3]
  have e5 : D ^ i * r + D ^ (i + 1) * q = D ^ i * cn + D ^ i * nth ds i := by
    rw [Nat.pow_succ, Nat.mul_assoc, ← Nat.mul_add, e1, Nat.mul_add]
  refine ⟨by omega, ?_⟩
  have : D ^ (i % 4) * (r + 1) ≤ D ^ (i % 4) * D := Nat.mul_le_mul_left _ e2
  rw [Nat.mul_add, Nat.mul_one, Nat.mul_comm _ r] at this
  omega
theorem NumI.next {ds outs : List Nat} {i cn wd : Nat} (h : NumI ds i cn wd outs) (h3 : i % 4 ≠ 3) :
    NumI ds (i + 1) ((cn + nth ds i) / D) (wd + (cn + nth ds i) % D * D ^ (i % 4)) outs := by
  obtain ⟨c1, c2⟩ := h.core
  refine ⟨h.1, by rw [h.2.1]; omega, ?_, ?_⟩
  · rw [show (i + 1) % 4 = i % 4 + 1 by omega, Nat.pow_succ]; exact c2
  · rw [show (i + 1) / 4 = i / 4 by omega]; exact c1
theorem NumI.word {ds outs : List Nat} {i cn wd : Nat} (h : NumI ds i cn wd outs) (h3 : i % 4 = 3) :
    NumI ds (i + 1) ((cn + nth ds i) / D) 0 (outs ++ [wd + (cn + nth ds i) % D * D ^ (i % 4)]) := by
  obtain ⟨c1, c2⟩ := h.core
  have c3 : wd + (cn + nth ds i) % D * D ^ (i % 4) < W := by
    rw [W_D]; rw [← Nat.pow_succ, h3] at c2; rw [h3]; exact c2
  refine ⟨h.1.append (All.cons c3 All.nil), ?_, ?_, ?_⟩
  · rw [List.length_append, h.2.1]; simp; omega
  · exact Nat.pow_pos D_pos
  · rw [val_append, h.2.1]
    simp only [val, Nat.mul_zero, Nat.add_zero]
    exact c1
theorem orw {X : Int} {x wd r : Nat} (hX : X = (x : Int)) (hr : r < 4) (hw : wd < D ^ r) : bits .or .u64 (wd : Int) (IntKind.u64.wrap (X % 65536 * 2 ^ (16 * r))) = ((wd + x % D * D ^ r : Nat) : Int) := by
  subst hX
  have e4 : D ^ r = 2 ^ (16 * r) := by rw [D_eq, show (65536 : Nat) = 2 ^ 16 from rfl, ← Nat.pow_mul]
  have e0 : ((x : Int) % 65536 * 2 ^ (16 * r)) = ((x % 65536 * 2 ^ (16 * r) : Nat) : Int) := by
    rw [Int.natCast_mul, Int.natCast_pow]; congr 1
  have hb : x % 65536 * 2 ^ (16 * r) < 18446744073709551616 := by
    have : 2 ^ (16 * r) ≤ 2 ^ 48 := Nat.pow_le_pow_right (by omega) (by omega)
    have h2 : x % 65536 * 2 ^ (16 * r) ≤ 65535 * 2 ^ 48 := Nat.mul_le_mul (by omega) this
    omega
  have hwb : wd < 18446744073709551616 := by
    have : D ^ r ≤ D ^ 4 := Nat.pow_le_pow_right D_pos (by omega)
    rw [← W_D, W_eq] at this
    omega
  rw [e0, wrapN _ hb]
  have h := bits_or_u64_nat wd (x % 65536 * 2 ^ (16 * r)) hwb hb
  refine Eq.trans h ?_
  rw [e4] at hw ⊢
  rw [D_eq]
  congr 1
  rw [Nat.or_comm, Nat.mul_comm, ← Nat.two_pow_add_eq_or_of_lt hw, Nat.add_comm]

set_option maxHeartbeats 2000000 in
set_option maxRecDepth 100000 in
theorem number3_any {A : Option Addr} {n c : Nat} {ds : List Nat} {w : World} (h : Rd .i64 w A n c ds) (hd : All 4611686018427387904 ds) (hn : n ≤ 137438953472) :
    Calls Try.prog 105 #[.slice A n c] w (GN w (val D ds) (n / 4 + 4)) := by
  have H := Lib.hid h
  have HD := Lib.hid hd
  have HE := Lib.hid elN
  clear h hd
  go_enter Try.func105, Try.ntmps105
  go_wp2
  go_loopw [3, 4, 5, 6] (fun o cv wv iv wr => ∃ (i cn wd : Nat) (B : Option Addr) (m e : Nat) (outs : List Nat), Hid (NumI ds i cn wd outs ∧ Own .u64 29 w.heap.size wr B m e outs ∧ Below w.heap.size w wr) ∧ Hid (NumC n i cn) ∧ o = .slice B m e ∧ cv = .int .i64 cn ∧ wv = .int .u64 wd ∧ iv = .int .i64 i) (fun _ cv _ iv _ => (n - (intOf iv).toNat) * 1125899906842624 + 4 * (intOf cv).toNat + (4 - (intOf iv).toNat % 4) % 4)
  case atStart => exact ⟨0, 0, 0, none, 0, 0, [], ⟨⟨All.nil, rfl, by decide, by simp [val]⟩, Own.nil, Below.refl _ _⟩, ⟨by omega, by omega, by omega⟩, rfl, rfl, rfl, rfl⟩
  case round =>
    obtain ⟨i, cn, wd, B, m, e, outs, hI, hC, rfl, rfl, rfl, rfl⟩ := hrel
    have hi : i ≤ n + 6 := by have := hC.out.1; omega
    have hc1 : cn < 140737488355328 := hC.out.2.1
    by_cases hlt : i < n
    · obtain ⟨b, off, ea, hb, hca⟩ := (H.out.below hI.out.2.2).at hlt
      subst ea
      have hx : nth ds i < 4611686018427387904 := HD.out.nth (by decide) i
      have HXB := Lib.hid hx
      have HX0 : Hid (n ≤ i → nth ds i = 0) := fun h => by omega
      by_cases h3 : i % 4 = 3
      · have q3 : ((i : Int) % 4 == 3) = true := by rw [beq_iff_eq]; omega
        have HO := Lib.hid (orw (X := (cn : Int) + (nth ds i : Nat)) (x := cn + nth ds i) (wd := wd) (r := i % 4) (by omega) (by omega) hI.out.1.2.2.1)
        have H3 := Lib.hid h3
        have HM : Hid (m ≤ 549755813888) := by show _ ≤ _; have := hI.out.2.1.len; have := hI.out.1.2.1; omega
        clear h3
        go_wp2_with (at_builtin; rw [HO.out]; (refine wpList_app rfl (.tmp 46) (.tmp 48) rfl HE.out (t := 29) (k := .u64) (B := w.heap.size) (ys := [wd + (cn + nth ds i) % D * D ^ (i % 4)]) rfl rfl (hI.out.2.1.alloc _) (Rd.lit1 wr _) (by have := HM.out; omega) (by have := hI.out.2.2.size; simp; omega) ?_); intro B1 e1 w1 ho1 hb1 _ _)
        go_roundw
        case rel =>
          refine ⟨i + 1, _, 0, B1, _, e1, _, ⟨hI.out.1.word H3.out, ho1, (hI.out.2.2.alloc hI.out.2.2.size _).trans hb1⟩, hC.out.step (by omega) HXB.out HX0.out, rfl, ?_, rfl, by go_num⟩
          (rw [D_eq]; rfl)
        case measure => simp [intOf]; omega
      · have q3 : ((i : Int) % 4 == 3) = false := by rw [beq_eq_false_iff_ne]; omega
        have HO := Lib.hid (orw (X := (cn : Int) + (nth ds i : Nat)) (x := cn + nth ds i) (wd := wd) (r := i % 4) (by omega) (by omega) hI.out.1.2.2.1)
        go_wp2
        go_roundw
        case rel =>
          refine ⟨i + 1, _, _, B, _, e, _, ⟨hI.out.1.next h3, hI.out.2.1, hI.out.2.2⟩, hC.out.step (by omega) HXB.out HX0.out, rfl, ?_, by rw [HO.out], by go_num⟩
          (rw [D_eq]; rfl)
        case measure => simp [intOf]; omega
    · have hz : nth ds i = 0 := nth_ge (by rw [H.out.len]; omega)
      have HXB : Hid (nth ds i < 4611686018427387904) := by show _ < _; omega
      have HX0 : Hid (n ≤ i → nth ds i = 0) := fun _ => hz
      have HZ := Lib.hid hz
      clear hz
      by_cases hc : 0 < cn
      · skip
        by_cases h3 : i % 4 = 3
        · have q3 : ((i : Int) % 4 == 3) = true := by rw [beq_iff_eq]; omega
          have HO := Lib.hid (orw (X := (cn : Int)) (x := cn + nth ds i) (wd := wd) (r := i % 4) (by rw [HZ.out, Nat.add_zero]) (by omega) hI.out.1.2.2.1)
          have H3 := Lib.hid h3
          have HM : Hid (m ≤ 549755813888) := by show _ ≤ _; have := hI.out.2.1.len; have := hI.out.1.2.1; omega
          clear h3
          go_wp2_with (at_builtin; rw [HO.out]; (refine wpList_app rfl (.tmp 46) (.tmp 48) rfl HE.out (t := 29) (k := .u64) (B := w.heap.size) (ys := [wd + (cn + nth ds i) % D * D ^ (i % 4)]) rfl rfl (hI.out.2.1.alloc _) (Rd.lit1 wr _) (by have := HM.out; omega) (by have := hI.out.2.2.size; simp; omega) ?_); intro B1 e1 w1 ho1 hb1 _ _)
          go_roundw
          case rel =>
            refine ⟨i + 1, _, 0, B1, _, e1, _, ⟨hI.out.1.word H3.out, ho1, (hI.out.2.2.alloc hI.out.2.2.size _).trans hb1⟩, hC.out.step (by omega) HXB.out HX0.out, rfl, ?_, rfl, by go_num⟩
            (rw [HZ.out, Nat.add_zero, D_eq]; rfl)
          case measure => simp [intOf]; omega
        · have q3 : ((i : Int) % 4 == 3) = false := by rw [beq_eq_false_iff_ne]; omega
          have HO := Lib.hid (orw (X := (cn : Int)) (x := cn + nth ds i) (wd := wd) (r := i % 4) (by rw [HZ.out, Nat.add_zero]) (by omega) hI.out.1.2.2.1)
          go_wp2
          go_roundw
          case rel =>
            refine ⟨i + 1, _, _, B, _, e, _, ⟨hI.out.1.next h3, hI.out.2.1, hI.out.2.2⟩, hC.out.step (by omega) HXB.out HX0.out, rfl, ?_, by rw [HO.out], by go_num⟩
            (rw [HZ.out, Nat.add_zero, D_eq]; rfl)
          case measure => simp [intOf]; omega
      · by_cases h4 : i % 4 = 0
        · obtain rfl : cn = 0 := by omega
          have HF : Hid (Own .u64 29 w.heap.size wr B m e outs ∧ Below w.heap.size w wr ∧ All W outs ∧ val W outs = val D ds ∧ m ≤ n / 4 + 4) := by
            obtain ⟨⟨f1, f2, f3, f4⟩, f5, f6⟩ := hI.out
            refine ⟨f5, f6, f1, ?_, ?_⟩
            · rw [h4, Nat.pow_zero] at f3
              have : wd = 0 := by omega
              subst this
              rw [val_take_ge (by rw [H.out.len]; omega)] at f4
              simpa using f4
            · have := f5.len; omega
          have q4 : ((i : Int) % 4 != 0) = false := by simp; omega
          have hm : m ≤ 549755813888 := by have := HF.out.2.2.2.2; omega
          clear hI hC h4
          go_wp2
          go_loop [3] (fun d => ∃ q : Nat, Hid (∀ j, q ≤ j → nth outs j = 0) ∧ q ≤ m ∧ d = .slice B q e) (fun d => match d with | .slice _ q _ => q | _ => 0)
          case atStart => exact ⟨m, fun j hj => nth_ge (by rw [HF.out.1.len]; exact hj), Nat.le_refl _, rfl⟩
          case round =>
            obtain ⟨q, hZ, hq, rfl⟩ := hrel
            have fin : (q = 0 ∨ nth outs (q - 1) ≠ 0) → GN w (val D ds) (n / 4 + 4) (.returned (.slice B q e)) wr := fun ht => by
              obtain ⟨g1, g2, g3, g4, g5⟩ := HF.out
              have e1 := strip_of_top (xs := outs) (m := q) (by rw [g1.len]; exact hq) hZ.out ht
              rw [strip_eq_dg W_gt g3, g4] at e1
              refine ⟨B, q, e, rfl, ?_, g2, by omega⟩
              rw [e1]
              exact g1.upto hq
            have FIN := Lib.hid fin
            clear fin
            by_cases h0 : q = 0
            · subst h0
              go_wp2
              go_ret
              exact FIN.out (by simp)
            · obtain ⟨p, rfl⟩ : ∃ p, q = p + 1 := ⟨q - 1, by omega⟩
              obtain ⟨b1, off1, ea, _, hcd⟩ := HF.out.1.rd.at (i := p) (by omega)
              subst ea
              by_cases hz : nth outs p = 0
              · have hc' : wr.cell? ⟨b1, off1 + p, none⟩ = some (.int .u64 0) := by rw [hcd, hz]; rfl
                have HZ := Lib.hid hz
                have hcp := HF.out.1.cap
                have i1 : p + 1 ≤ e := by omega
                clear hz hcd hcp
                go_wp2
                go_round
                case rel =>
                  refine ⟨p, fun j hj => ?_, by omega, rfl⟩
                  by_cases hjm : j = p
                  · subst hjm; exact HZ.out
                  · exact hZ.out j (by omega)
                case measure => simp
              · have hne : (((nth outs p : Nat) : Int) == 0) = false := by rw [beq_eq_false_iff_ne]; omega
                have HZ := Lib.hid hz
                clear hz
                go_wp2
                go_ret
                exact FIN.out (.inr HZ.out)
        · have q4 : ((i : Int) % 4 != 0) = true := by simp; omega
          by_cases h3 : i % 4 = 3
          · have q3 : ((i : Int) % 4 == 3) = true := by rw [beq_iff_eq]; omega
            have HO := Lib.hid (orw (X := (cn : Int)) (x := cn + nth ds i) (wd := wd) (r := i % 4) (by rw [HZ.out, Nat.add_zero]) (by omega) hI.out.1.2.2.1)
            have H3 := Lib.hid h3
            have HM : Hid (m ≤ 549755813888) := by show _ ≤ _; have := hI.out.2.1.len; have := hI.out.1.2.1; omega
            clear h3
            go_wp2_with (at_builtin; rw [HO.out]; (refine wpList_app rfl (.tmp 46) (.tmp 48) rfl HE.out (t := 29) (k := .u64) (B := w.heap.size) (ys := [wd + (cn + nth ds i) % D * D ^ (i % 4)]) rfl rfl (hI.out.2.1.alloc _) (Rd.lit1 wr _) (by have := HM.out; omega) (by have := hI.out.2.2.size; simp; omega) ?_); intro B1 e1 w1 ho1 hb1 _ _)
            go_roundw
            case rel =>
              refine ⟨i + 1, _, 0, B1, _, e1, _, ⟨hI.out.1.word H3.out, ho1, (hI.out.2.2.alloc hI.out.2.2.size _).trans hb1⟩, hC.out.step (by omega) HXB.out HX0.out, rfl, ?_, rfl, by go_num⟩
              (rw [HZ.out, Nat.add_zero, D_eq]; rfl)
            case measure => simp [intOf]; omega
          · have q3 : ((i : Int) % 4 == 3) = false := by rw [beq_eq_false_iff_ne]; omega
            have HO := Lib.hid (orw (X := (cn : Int)) (x := cn + nth ds i) (wd := wd) (r := i % 4) (by rw [HZ.out, Nat.add_zero]) (by omega) hI.out.1.2.2.1)
            go_wp2
            go_roundw
            case rel =>
              refine ⟨i + 1, _, _, B, _, e, _, ⟨hI.out.1.next h3, hI.out.2.1, hI.out.2.2⟩, hC.out.step (by omega) HXB.out HX0.out, rfl, ?_, by rw [HO.out], by go_num⟩
              (rw [HZ.out, Nat.add_zero, D_eq]; rfl)
            case measure => simp [intOf]; omega
end Go.Proofs.Ytikinbnmphnfeaa
