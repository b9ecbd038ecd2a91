/-
  The reference of layer 3: surdref03.Digits, Number, Same. The reference of layer 3: surdref03.Number, Norm, Same, times, plus.
-/
import Derived.Test.YtajoafcondgelaaMulX
import Derived.IntWalk
namespace Go.Proofs.Ytajoafcondgelaa
open Go.RowKit
set_option linter.unusedVariables false

theorem elI : Elem Try.prog 53 3 .i64 := ⟨Try.underlying53, by kernel_rfl⟩

/-- the digits' base -/
def D : Nat := 65536
theorem D_eq : D = 65536 := rfl
theorem D_pos : 0 < D := by decide
theorem D_gt : 1 < D := by decide
theorem W_D : W = D ^ 4 := by decide

theorem wds_snoc {b : Nat} (j x : Nat) : wds b (j + 1) x = wds b j x ++ [x / b ^ j % b] := by
  induction j generalizing x with
  | zero => simp [wds]
  | succ j ih =>
    rw [wds, ih, wds]
    simp only [List.cons_append]
    rw [Nat.div_div_eq_div_mul, Nat.pow_succ, Nat.mul_comm b]
theorem val_flat {xs : List Nat} (h : All W xs) : val D (xs.flatMap (wds D 4)) = val W xs := by
  induction xs with
  | nil => rfl
  | cons x xs ih =>
    rw [List.flatMap_cons, val_append, val_wds, wds_length, ih h.tail, val, ← W_D, Nat.mod_eq_of_lt h.head]
theorem flat_all (xs : List Nat) : All D (xs.flatMap (wds D 4)) := by
  intro x hx
  obtain ⟨y, _, hy⟩ := List.mem_flatMap.1 hx
  exact wds_all D_pos _ _ _ hy
theorem flat_length (xs : List Nat) : (xs.flatMap (wds D 4)).length = 4 * xs.length := by
  induction xs with
  | nil => rfl
  | cons x xs ih => rw [List.flatMap_cons, List.length_append, wds_length, ih, List.length_cons]; omega
theorem flat_take_succ {xs : List Nat} {k : Nat} (h : k < xs.length) : (xs.take (k + 1)).flatMap (wds D 4) = (xs.take k).flatMap (wds D 4) ++ wds D 4 (nth xs k) := by
  rw [List.take_succ_eq_append_getElem h, List.flatMap_append, nth_lt h]
  simp

/-- an own slice made shorter -/
theorem Own.upto {k : IntKind} {t : TypeId} {B n c j : Nat} {w : World} {A : Option Addr} {xs : List Nat} (h : Own k t B w A n c xs) (hj : j ≤ n) : Own k t B w A j c (xs.take j) := by
  have hl := h.len
  refine ⟨by simp [hl]; omega, ?_⟩
  rcases h.2 with ⟨h2, h3⟩ | ⟨g, cap, cur, hv, hg, hh, hnc, hcm, hs, ht⟩
  · injection h2 with e1 e2 e3
    subst h3
    have : j = 0 := by omega
    subst this
    exact .inl ⟨by rw [e1, e3], rfl⟩
  · injection hv with e1 e2 e3
    refine .inr ⟨g, cap, cur, by rw [e1, e3], hg, hh, by omega, hcm, hs, ?_⟩
    rw [Nat.mul_one] at ht ⊢
    rw [List.map_take, ← ht, List.take_take, Nat.min_eq_left hj]

theorem dgt (x j : Nat) (hx : x < W) (hj : j < 4) : wrap64 (bits .and .u64 ((x : Int) / 2 ^ (16 * j)) 65535) = ((x / D ^ j % D : Nat) : Int) := by
  have e : x / 2 ^ (16 * j) < 18446744073709551616 := Nat.lt_of_le_of_lt (Nat.div_le_self _ _) hx
  have h := bits_and_u64_nat (x / 2 ^ (16 * j)) 65535 e (by omega)
  have e2 : x / 2 ^ (16 * j) &&& 65535 = x / 2 ^ (16 * j) % 65536 := Nat.and_two_pow_sub_one_eq_mod _ 16
  rw [e2] at h
  have e3 : (x : Int) / 2 ^ (16 * j) = ((x / 2 ^ (16 * j) : Nat) : Int) := by
    rw [Int.natCast_ediv, Int.natCast_pow]; rfl
  have e4 : D ^ j = 2 ^ (16 * j) := by rw [D_eq, show (65536 : Nat) = 2 ^ 16 from rfl, ← Nat.pow_mul]
  rw [e3, e4]
  refine Eq.trans (congrArg wrap64 h) ?_
  rw [D_eq]
  exact IntWalk.wrap64_in _ ⟨by omega, by omega⟩

/-- what a call gives that answers new digits -/
def GD (w : World) (ds : List Nat) (e : Ending) (w' : World) : Prop :=
  ∃ A n c, e = .returned (.slice A n c) ∧ Own .i64 3 w.heap.size w' A n c ds ∧ Below w.heap.size w w'

set_option maxHeartbeats 1000000 in
theorem digits3_any {v : Value} {x L : Nat} {w : World} (h : Num w v x L) (hL : L ≤ 137438953472) :
    Calls Try.prog 35 #[v] w (GD w (dg D x)) := by
  obtain ⟨A, n, c, xs, rfl, h1, h2, h3, h4⟩ := h
  have H := Lib.hid h1
  have HX := Lib.hid h2
  have HV := Lib.hid h3
  have HE := Lib.hid elI
  have hn : n ≤ 137438953472 := by omega
  clear h1 h2 h3 h4 hL
  go_enter Try.func35, Try.ntmps35
  go_wp2
  go_loopw [3, 4] (fun d i wr => ∃ (k : Nat) (B : Option Addr) (m e : Nat), Hid (Own .i64 3 w.heap.size wr B m e ((xs.take k).flatMap (wds D 4)) ∧ Below w.heap.size w wr) ∧ k ≤ n ∧ d = .slice B m e ∧ i = .int .i64 k) (fun _ i _ => n - (intOf i).toNat)
  case atStart => exact ⟨0, none, 0, 0, ⟨Own.nil, Below.refl _ _⟩, Nat.zero_le _, rfl, rfl⟩
  case round =>
    obtain ⟨k, B, m, e, hI, hk, rfl, rfl⟩ := hrel
    obtain ⟨wo, rfl⟩ : ∃ wo : World, wo = wr := ⟨_, rfl⟩
    by_cases hlt : k < n
    · obtain ⟨b, off, ea, hb, _⟩ := H.out.at hlt
      subst ea
      go_wp2
      go_loopw [3, 5] (fun d i wr => ∃ (j : Nat) (B : Option Addr) (m e : Nat), Hid (Own .i64 3 w.heap.size wr B m e ((xs.take k).flatMap (wds D 4) ++ wds D j (nth xs k)) ∧ Below w.heap.size w wr) ∧ j ≤ 4 ∧ d = .slice B m e ∧ i = .int .i64 j) (fun _ i _ => 4 - (intOf i).toNat)
      case atStart => exact ⟨0, B, m, e, ⟨by simpa [wds] using hI.out.1, hI.out.2⟩, by omega, rfl, rfl⟩
      case round =>
        obtain ⟨j, B, m, e, hJ, hj, rfl, rfl⟩ := hrel
        by_cases hlt2 : j < 4
        · obtain ⟨b, off, e, hb, hca⟩ := (H.out.below hJ.out.2).at hlt
          injection e with e; injection e with e1 e2
          subst e1 e2
          have hsz : Hid (m = 4 * k + j) := by
            show m = _
            have := hJ.out.1.len
            rw [List.length_append, flat_length, wds_length, List.length_take, H.out.len] at this
            omega
          have HD := Lib.hid (dgt (nth xs k) j (HX.out.nth W_pos k) hlt2)
          go_wp2_with (at_builtin; rw [HD.out]; (refine wpList_app rfl (.tmp 16) (.tmp 26) rfl HE.out (t := 3) (k := .i64) (B := w.heap.size) (ys := [nth xs k / D ^ j % D]) rfl rfl (hJ.out.1.alloc _) (Rd.lit1 wr _) (by have := hsz.out; omega) (by have := hJ.out.2.size; simp; omega) ?_); intro B1 e1 w1 ho1 hb1 _ _)
          go_roundw
          case rel =>
            refine ⟨j + 1, B1, _, e1, ⟨?_, (hJ.out.2.alloc hJ.out.2.size _).trans hb1⟩, by omega, rfl, by go_num⟩
            rw [wds_snoc, ← List.append_assoc]
            exact ho1
          case measure => simp [intOf]; omega
        · obtain rfl : j = 4 := by omega
          go_wp2
          go_roundw
          case rel =>
            refine ⟨k + 1, B, _, _, ⟨?_, hJ.out.2⟩, by omega, rfl, by go_num⟩
            rw [flat_take_succ (by rw [H.out.len]; exact hlt)]
            exact hJ.out.1
          case measure => simp [intOf]; omega
    · obtain rfl : k = n := by omega
      have HF : Hid (Own .i64 3 w.heap.size wo B m e (xs.flatMap (wds D 4)) ∧ Below w.heap.size w wo) := by
        have h := hI.out
        rw [List.take_of_length_le (by rw [H.out.len]; exact Nat.le_refl _)] at h
        exact h
      have hsz : m ≤ 549755813888 := by
        have := HF.out.1.len
        rw [flat_length, H.out.len] at this
        omega
      clear hI
      go_wp2
      go_loop [3] (fun d => ∃ q : Nat, Hid (∀ j, q ≤ j → nth (xs.flatMap (wds D 4)) j = 0) ∧ q ≤ m ∧ d = .slice B q e) (fun d => match d with | .slice _ q _ => q | _ => 0)
      case atStart => exact ⟨m, fun j hj => nth_ge (by rw [HF.out.1.len]; exact hj), Nat.le_refl _, rfl⟩
      case round =>
        obtain ⟨q, hZ, hq, rfl⟩ := hrel
        have fin : (q = 0 ∨ nth (xs.flatMap (wds D 4)) (q - 1) ≠ 0) → GD w (dg D x) (.returned (.slice B q e)) wo := fun ht => by
          have e1 := strip_of_top (xs := xs.flatMap (wds D 4)) (m := q) (by rw [HF.out.1.len]; exact hq) hZ.out ht
          rw [strip_eq_dg D_gt (flat_all xs), val_flat HX.out, HV.out] at e1
          refine ⟨B, q, e, rfl, ?_, HF.out.2⟩
          rw [e1]
          exact HF.out.1.upto hq
        have FIN := Lib.hid fin
        clear fin
        by_cases h0 : q = 0
        · subst h0
          go_wp2
          go_ret
          exact FIN.out (by simp)
        · obtain ⟨p, rfl⟩ : ∃ p, q = p + 1 := ⟨q - 1, by omega⟩
          obtain ⟨b1, off1, ea, _, hcd⟩ := HF.out.1.rd.at (i := p) (by omega)
          subst ea
          by_cases hz : nth (xs.flatMap (wds D 4)) p = 0
          · have hc' : wo.cell? ⟨b1, off1 + p, none⟩ = some (.int .i64 0) := by rw [hcd, hz]; rfl
            have HZ := Lib.hid hz
            have hcp := HF.out.1.cap
            have i1 : p + 1 ≤ e := by omega
            clear hz hcd hcp
            go_wp2
            go_round
            case rel =>
              refine ⟨p, fun j hj => ?_, by omega, rfl⟩
              by_cases hjm : j = p
              · subst hjm; exact HZ.out
              · exact hZ.out j (by omega)
            case measure => simp
          · have hne : (((nth (xs.flatMap (wds D 4)) p : Nat) : Int) == 0) = false := by rw [beq_eq_false_iff_ne]; omega
            have HZ := Lib.hid hz
            clear hz
            go_wp2
            go_ret
            exact FIN.out (.inr HZ.out)

end Go.Proofs.Ytajoafcondgelaa
namespace Go.Proofs.Ytajoafcondgelaa
open Go.RowKit
set_option linter.unusedVariables false

/-- i digits are done: the words, the word at hand, what is carried -/
def NumI (ds : List Nat) (i cn wd : Nat) (outs : List Nat) : Prop :=
  All W outs ∧ outs.length = i / 4 ∧ wd < D ^ (i % 4) ∧ val W outs + W ^ (i / 4) * wd + D ^ i * cn = val D (ds.take i)
def NumC (n i cn : Nat) : Prop := i ≤ (n + 6) / 4 * 4 ∧ cn < 140737488355328 ∧ (n ≤ i → cn * 65536 ^ (i - n) < 140737488355328)
theorem NumC.step {n i cn d : Nat} (h : NumC n i cn) (hgo : i < n ∨ 0 < cn ∨ i % 4 ≠ 0) (hd : d < 4611686018427387904) (hd0 : n ≤ i → d = 0) : NumC n (i + 1) ((cn + d) / 65536) := by
  obtain ⟨h1, h2, h3⟩ := h
  by_cases hlt : i < n
  · refine ⟨by omega, by omega, fun h => ?_⟩
    have : i + 1 - n = 0 := by omega
    rw [this, Nat.pow_zero, Nat.mul_one]
    omega
  · have e0 := hd0 (by omega)
    subst e0
    have h3' := h3 (by omega)
    have hp : 0 < 65536 ^ (i - n) := Nat.pow_pos (by omega)
    refine ⟨?_, by omega, fun _ => ?_⟩
    · by_cases hc : cn = 0
      · omega
      · have h5 : ¬ 3 ≤ i - n := fun h3 => by
          have h4 : 65536 ^ 3 ≤ 65536 ^ (i - n) := Nat.pow_le_pow_right (by omega) h3
          have h5 : 1 * 65536 ^ 3 ≤ cn * 65536 ^ (i - n) := Nat.mul_le_mul (by omega) h4
          omega
        omega
    · rw [show i + 1 - n = (i - n) + 1 by omega, Nat.pow_succ, Nat.add_zero, Nat.mul_comm (65536 ^ (i - n)), ← Nat.mul_assoc]
      exact Nat.lt_of_le_of_lt (Nat.mul_le_mul_right _ (Nat.div_mul_le_self _ _)) h3'
theorem W_pow (i : Nat) : W ^ (i / 4) * D ^ (i % 4) = D ^ i := by
  rw [W_D, ← Nat.pow_mul, ← Nat.pow_add]; congr 1; omega
theorem NumI.core {ds outs : List Nat} {i cn wd : Nat} (h : NumI ds i cn wd outs) :
    val W outs + W ^ (i / 4) * (wd + (cn + nth ds i) % D * D ^ (i % 4)) + D ^ (i + 1) * ((cn + nth ds i) / D) = val D (ds.take (i + 1)) ∧ wd + (cn + nth ds i) % D * D ^ (i % 4) < D ^ (i % 4) * D := by
  obtain ⟨h1, h2, h3, h5⟩ := h
  rw [val_take_succ' ds i, ← h5]
  have e1 := Nat.mod_add_div (cn + nth ds i) D
  have e2 := Nat.mod_lt (cn + nth ds i) D_pos
  generalize (cn + nth ds i) % D = r at *
  generalize (cn + nth ds i) / D = q at *
  have e3 := W_pow i
  have e4 : W ^ (i / 4) * (wd + r * D ^ (i % 4)) = W ^ (i / 4) * wd + D ^ i * r := by
    rw [Nat.mul_add, Nat.mul_comm r, ← Nat.mul_assoc, e3]
  have e5 : D ^ i * r + D ^ (i + 1) * q = D ^ i * cn + D ^ i * nth ds i := by
    rw [Nat.pow_succ, Nat.mul_assoc, ← Nat.mul_add, e1, Nat.mul_add]
  refine ⟨by omega, ?_⟩
  have : D ^ (i % 4) * (r + 1) ≤ D ^ (i % 4) * D := Nat.mul_le_mul_left _ e2
  rw [Nat.mul_add, Nat.mul_one, Nat.mul_comm _ r] at this
  omega
theorem NumI.next {ds outs : List Nat} {i cn wd : Nat} (h : NumI ds i cn wd outs) (h3 : i % 4 ≠ 3) :
    NumI ds (i + 1) ((cn + nth ds i) / D) (wd + (cn + nth ds i) % D * D ^ (i % 4)) outs := by
  obtain ⟨c1, c2⟩ := h.core
  refine ⟨h.1, by rw [h.2.1]; omega, ?_, ?_⟩
  · rw [show (i + 1) % 4 = i % 4 + 1 by omega, Nat.pow_succ]; exact c2
  · rw [show (i + 1) / 4 = i / 4 by omega]; exact c1
theorem NumI.word {ds outs : List Nat} {i cn wd : Nat} (h : NumI ds i cn wd outs) (h3 : i % 4 = 3) :
    NumI ds (i + 1) ((cn + nth ds i) / D) 0 (outs ++ [wd + (cn + nth ds i) % D * D ^ (i % 4)]) := by
  obtain ⟨c1, c2⟩ := h.core
  have c3 : wd + (cn + nth ds i) % D * D ^ (i % 4) < W := by
    rw [W_D]; rw [← Nat.pow_succ, h3] at c2; rw [h3]; exact c2
  refine ⟨h.1.append (All.cons c3 All.nil), ?_, ?_, ?_⟩
  · rw [List.length_append, h.2.1]; simp; omega
  · exact Nat.pow_pos D_pos
  · rw [val_append, h.2.1]
    simp only [val, Nat.mul_zero, Nat.add_zero]
    exact c1
theorem orw {X : Int} {x wd r : Nat} (hX : X = (x : Int)) (hr : r < 4) (hw : wd < D ^ r) : bits .or .u64 (wd : Int) (IntKind.u64.wrap (X % 65536 * 2 ^ (16 * r))) = ((wd + x % D * D ^ r : Nat) : Int) := by
  subst hX
  have e4 : D ^ r = 2 ^ (16 * r) := by rw [D_eq, show (65536 : Nat) = 2 ^ 16 from rfl, ← Nat.pow_mul]
  have e0 : ((x : Int) % 65536 * 2 ^ (16 * r)) = ((x % 65536 * 2 ^ (16 * r) : Nat) : Int) := by
    rw [Int.natCast_mul, Int.natCast_pow]; congr 1
  have hb : x % 65536 * 2 ^ (16 * r) < 18446744073709551616 := by
    have : 2 ^ (16 * r) ≤ 2 ^ 48 := Nat.pow_le_pow_right (by omega) (by omega)
    have h2 : x % 65536 * 2 ^ (16 * r) ≤ 65535 * 2 ^ 48 := Nat.mul_le_mul (by omega) this
    omega
  have hwb : wd < 18446744073709551616 := by
    have : D ^ r ≤ D ^ 4 := Nat.pow_le_pow_right D_pos (by omega)
    rw [← W_D, W_eq] at this
    omega
  rw [e0, wrapN _ hb]
  have h := bits_or_u64_nat wd (x % 65536 * 2 ^ (16 * r)) hwb hb
  refine Eq.trans h ?_
  rw [e4] at hw ⊢
  rw [D_eq]
  congr 1
  rw [Nat.or_comm, Nat.mul_comm, ← Nat.two_pow_add_eq_or_of_lt hw, Nat.add_comm]

set_option maxHeartbeats 2000000 in
set_option maxRecDepth 100000 in
theorem number3_any {A : Option Addr} {n c : Nat} {ds : List Nat} {w : World} (h : Rd .i64 w A n c ds) (hd : All 4611686018427387904 ds) (hn : n ≤ 137438953472) :
    Calls Try.prog 33 #[.slice A n c] w (GN w (val D ds) (n / 4 + 4)) := by
  have H := Lib.hid h
  have HD := Lib.hid hd
  have HE := Lib.hid elN
  clear h hd
  go_enter Try.func33, Try.ntmps33
  go_wp2
  go_loopw [3, 4, 5, 6] (fun o cv wv iv wr => ∃ (i cn wd : Nat) (B : Option Addr) (m e : Nat) (outs : List Nat), Hid (NumI ds i cn wd outs ∧ Own .u64 30 w.heap.size wr B m e outs ∧ Below w.heap.size w wr) ∧ Hid (NumC n i cn) ∧ o = .slice B m e ∧ cv = .int .i64 cn ∧ wv = .int .u64 wd ∧ iv = .int .i64 i) (fun _ cv _ iv _ => (n - (intOf iv).toNat) * 1125899906842624 + 4 * (intOf cv).toNat + (4 - (intOf iv).toNat % 4) % 4)
  case atStart => exact ⟨0, 0, 0, none, 0, 0, [], ⟨⟨All.nil, rfl, by decide, by simp [val]⟩, Own.nil, Below.refl _ _⟩, ⟨by omega, by omega, by omega⟩, rfl, rfl, rfl, rfl⟩
  case round =>
    obtain ⟨i, cn, wd, B, m, e, outs, hI, hC, rfl, rfl, rfl, rfl⟩ := hrel
    have hi : i ≤ n + 6 := by have := hC.out.1; omega
    have hc1 : cn < 140737488355328 := hC.out.2.1
    by_cases hlt : i < n
    · obtain ⟨b, off, ea, hb, hca⟩ := (H.out.below hI.out.2.2).at hlt
      subst ea
      have hx : nth ds i < 4611686018427387904 := HD.out.nth (by decide) i
      have HXB := Lib.hid hx
      have HX0 : Hid (n ≤ i → nth ds i = 0) := fun h => by omega
      by_cases h3 : i % 4 = 3
      · have q3 : ((i : Int) % 4 == 3) = true := by rw [beq_iff_eq]; omega
        have HO := Lib.hid (orw (X := (cn : Int) + (nth ds i : Nat)) (x := cn + nth ds i) (wd := wd) (r := i % 4) (by omega) (by omega) hI.out.1.2.2.1)
        have H3 := Lib.hid h3
        have HM : Hid (m ≤ 549755813888) := by show _ ≤ _; have := hI.out.2.1.len; have := hI.out.1.2.1; omega
        clear h3
        go_wp2_with (at_builtin; rw [HO.out]; (refine wpList_app rfl (.tmp 46) (.tmp 48) rfl HE.out (t := 30) (k := .u64) (B := w.heap.size) (ys := [wd + (cn + nth ds i) % D * D ^ (i % 4)]) rfl rfl (hI.out.2.1.alloc _) (Rd.lit1 wr _) (by have := HM.out; omega) (by have := hI.out.2.2.size; simp; omega) ?_); intro B1 e1 w1 ho1 hb1 _ _)
        go_roundw
        case rel =>
          refine ⟨i + 1, _, 0, B1, _, e1, _, ⟨hI.out.1.word H3.out, ho1, (hI.out.2.2.alloc hI.out.2.2.size _).trans hb1⟩, hC.out.step (by omega) HXB.out HX0.out, rfl, ?_, rfl, by go_num⟩
          (rw [D_eq]; rfl)
        case measure => simp [intOf]; omega
      · have q3 : ((i : Int) % 4 == 3) = false := by rw [beq_eq_false_iff_ne]; omega
        have HO := Lib.hid (orw (X := (cn : Int) + (nth ds i : Nat)) (x := cn + nth ds i) (wd := wd) (r := i % 4) (by omega) (by omega) hI.out.1.2.2.1)
        go_wp2
        go_roundw
        case rel =>
          refine ⟨i + 1, _, _, B, _, e, _, ⟨hI.out.1.next h3, hI.out.2.1, hI.out.2.2⟩, hC.out.step (by omega) HXB.out HX0.out, rfl, ?_, by rw [HO.out], by go_num⟩
          (rw [D_eq]; rfl)
        case measure => simp [intOf]; omega
    · have hz : nth ds i = 0 := nth_ge (by rw [H.out.len]; omega)
      have HXB : Hid (nth ds i < 4611686018427387904) := by show _ < _; omega
      have HX0 : Hid (n ≤ i → nth ds i = 0) := fun _ => hz
      have HZ := Lib.hid hz
      clear hz
      by_cases hc : 0 < cn
      · skip
        by_cases h3 : i % 4 = 3
        · have q3 : ((i : Int) % 4 == 3) = true := by rw [beq_iff_eq]; omega
          have HO := Lib.hid (orw (X := (cn : Int)) (x := cn + nth ds i) (wd := wd) (r := i % 4) (by rw [HZ.out, Nat.add_zero]) (by omega) hI.out.1.2.2.1)
          have H3 := Lib.hid h3
          have HM : Hid (m ≤ 549755813888) := by show _ ≤ _; have := hI.out.2.1.len; have := hI.out.1.2.1; omega
          clear h3
          go_wp2_with (at_builtin; rw [HO.out]; (refine wpList_app rfl (.tmp 46) (.tmp 48) rfl HE.out (t := 30) (k := .u64) (B := w.heap.size) (ys := [wd + (cn + nth ds i) % D * D ^ (i % 4)]) rfl rfl (hI.out.2.1.alloc _) (Rd.lit1 wr _) (by have := HM.out; omega) (by have := hI.out.2.2.size; simp; omega) ?_); intro B1 e1 w1 ho1 hb1 _ _)
          go_roundw
          case rel =>
            refine ⟨i + 1, _, 0, B1, _, e1, _, ⟨hI.out.1.word H3.out, ho1, (hI.out.2.2.alloc hI.out.2.2.size _).trans hb1⟩, hC.out.step (by omega) HXB.out HX0.out, rfl, ?_, rfl, by go_num⟩
            (rw [HZ.out, Nat.add_zero, D_eq]; rfl)
          case measure => simp [intOf]; omega
        · have q3 : ((i : Int) % 4 == 3) = false := by rw [beq_eq_false_iff_ne]; omega
          have HO := Lib.hid (orw (X := (cn : Int)) (x := cn + nth ds i) (wd := wd) (r := i % 4) (by rw [HZ.out, Nat.add_zero]) (by omega) hI.out.1.2.2.1)
          go_wp2
          go_roundw
          case rel =>
            refine ⟨i + 1, _, _, B, _, e, _, ⟨hI.out.1.next h3, hI.out.2.1, hI.out.2.2⟩, hC.out.step (by omega) HXB.out HX0.out, rfl, ?_, by rw [HO.out], by go_num⟩
            (rw [HZ.out, Nat.add_zero, D_eq]; rfl)
          case measure => simp [intOf]; omega
      · by_cases h4 : i % 4 = 0
        · obtain rfl : cn = 0 := by omega
          have HF : Hid (Own .u64 30 w.heap.size wr B m e outs ∧ Below w.heap.size w wr ∧ All W outs ∧ val W outs = val D ds ∧ m ≤ n / 4 + 4) := by
            obtain ⟨⟨f1, f2, f3, f4⟩, f5, f6⟩ := hI.out
            refine ⟨f5, f6, f1, ?_, ?_⟩
            · rw [h4, Nat.pow_zero] at f3
              have : wd = 0 := by omega
              subst this
              rw [val_take_ge (by rw [H.out.len]; omega)] at f4
              simpa using f4
            · have := f5.len; omega
          have q4 : ((i : Int) % 4 != 0) = false := by simp; omega
          have hm : m ≤ 549755813888 := by have := HF.out.2.2.2.2; omega
          clear hI hC h4
          go_wp2
          go_loop [3] (fun d => ∃ q : Nat, Hid (∀ j, q ≤ j → nth outs j = 0) ∧ q ≤ m ∧ d = .slice B q e) (fun d => match d with | .slice _ q _ => q | _ => 0)
          case atStart => exact ⟨m, fun j hj => nth_ge (by rw [HF.out.1.len]; exact hj), Nat.le_refl _, rfl⟩
          case round =>
            obtain ⟨q, hZ, hq, rfl⟩ := hrel
            have fin : (q = 0 ∨ nth outs (q - 1) ≠ 0) → GN w (val D ds) (n / 4 + 4) (.returned (.slice B q e)) wr := fun ht => by
              obtain ⟨g1, g2, g3, g4, g5⟩ := HF.out
              have e1 := strip_of_top (xs := outs) (m := q) (by rw [g1.len]; exact hq) hZ.out ht
              rw [strip_eq_dg W_gt g3, g4] at e1
              refine ⟨B, q, e, rfl, ?_, g2, by omega⟩
              rw [e1]
              exact g1.upto hq
            have FIN := Lib.hid fin
            clear fin
            by_cases h0 : q = 0
            · subst h0
              go_wp2
              go_ret
              exact FIN.out (by simp)
            · obtain ⟨p, rfl⟩ : ∃ p, q = p + 1 := ⟨q - 1, by omega⟩
              obtain ⟨b1, off1, ea, _, hcd⟩ := HF.out.1.rd.at (i := p) (by omega)
              subst ea
              by_cases hz : nth outs p = 0
              · have hc' : wr.cell? ⟨b1, off1 + p, none⟩ = some (.int .u64 0) := by rw [hcd, hz]; rfl
                have HZ := Lib.hid hz
                have hcp := HF.out.1.cap
                have i1 : p + 1 ≤ e := by omega
                clear hz hcd hcp
                go_wp2
                go_round
                case rel =>
                  refine ⟨p, fun j hj => ?_, by omega, rfl⟩
                  by_cases hjm : j = p
                  · subst hjm; exact HZ.out
                  · exact hZ.out j (by omega)
                case measure => simp
              · have hne : (((nth outs p : Nat) : Int) == 0) = false := by rw [beq_eq_false_iff_ne]; omega
                have HZ := Lib.hid hz
                clear hz
                go_wp2
                go_ret
                exact FIN.out (.inr HZ.out)
        · have q4 : ((i : Int) % 4 != 0) = true := by simp; omega
          by_cases h3 : i % 4 = 3
          · have q3 : ((i : Int) % 4 == 3) = true := by rw [beq_iff_eq]; omega
            have HO := Lib.hid (orw (X := (cn : Int)) (x := cn + nth ds i) (wd := wd) (r := i % 4) (by rw [HZ.out, Nat.add_zero]) (by omega) hI.out.1.2.2.1)
            have H3 := Lib.hid h3
            have HM : Hid (m ≤ 549755813888) := by show _ ≤ _; have := hI.out.2.1.len; have := hI.out.1.2.1; omega
            clear h3
            go_wp2_with (at_builtin; rw [HO.out]; (refine wpList_app rfl (.tmp 46) (.tmp 48) rfl HE.out (t := 30) (k := .u64) (B := w.heap.size) (ys := [wd + (cn + nth ds i) % D * D ^ (i % 4)]) rfl rfl (hI.out.2.1.alloc _) (Rd.lit1 wr _) (by have := HM.out; omega) (by have := hI.out.2.2.size; simp; omega) ?_); intro B1 e1 w1 ho1 hb1 _ _)
            go_roundw
            case rel =>
              refine ⟨i + 1, _, 0, B1, _, e1, _, ⟨hI.out.1.word H3.out, ho1, (hI.out.2.2.alloc hI.out.2.2.size _).trans hb1⟩, hC.out.step (by omega) HXB.out HX0.out, rfl, ?_, rfl, by go_num⟩
              (rw [HZ.out, Nat.add_zero, D_eq]; rfl)
            case measure => simp [intOf]; omega
          · have q3 : ((i : Int) % 4 == 3) = false := by rw [beq_eq_false_iff_ne]; omega
            have HO := Lib.hid (orw (X := (cn : Int)) (x := cn + nth ds i) (wd := wd) (r := i % 4) (by rw [HZ.out, Nat.add_zero]) (by omega) hI.out.1.2.2.1)
            go_wp2
            go_roundw
            case rel =>
              refine ⟨i + 1, _, _, B, _, e, _, ⟨hI.out.1.next h3, hI.out.2.1, hI.out.2.2⟩, hC.out.step (by omega) HXB.out HX0.out, rfl, ?_, by rw [HO.out], by go_num⟩
              (rw [HZ.out, Nat.add_zero, D_eq]; rfl)
            case measure => simp [intOf]; omega
end Go.Proofs.Ytajoafcondgelaa
