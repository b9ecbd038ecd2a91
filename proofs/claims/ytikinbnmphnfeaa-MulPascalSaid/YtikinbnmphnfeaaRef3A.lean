/-
  The reference of layer 3: surdref03.Digits, Number, Same.
-/
import Derived.Test.YtikinbnmphnfeaaMulB
import Derived.IntWalk
namespace Go.Proofs.Ytikinbnmphnfeaa
open Go.RowKit
set_option linter.unusedVariables false

theorem elI : Elem Try.prog 87 3 .i64 := ⟨Try.underlying87, by kernel_rfl⟩

/-- the digits' base -/
def D : Nat := 65536
theorem D_eq : D = 65536 := rfl
theorem D_pos : 0 < D := by decide
theorem D_gt : 1 < D := by decide
theorem W_D : W = D ^ 4 := by decide

theorem wds_snoc {b : Nat} (j x : Nat) : wds b (j + 1) x = wds b j x ++ [x / b ^ j % b] := by
  induction j generalizing x with
  | zero => simp [wds]
  | succ j ih =>
    rw [wds, ih, wds]
    simp only [List.cons_append]
    rw [Nat.div_div_eq_div_mul, Nat.pow_succ, Nat.mul_comm b]
theorem val_flat {xs : List Nat} (h : All W xs) : val D (xs.flatMap (wds D 4)) = val W xs := by
  induction xs with
  | nil => rfl
  | cons x xs ih =>
    rw [List.flatMap_cons, val_append, val_wds, wds_length, ih h.tail, val, ← W_D, Nat.mod_eq_of_lt h.head]
theorem flat_all (xs : List Nat) : All D (xs.flatMap (wds D 4)) := by
  intro x hx
  obtain ⟨y, _, hy⟩ := List.mem_flatMap.1 hx
  exact wds_all D_pos _ _ _ hy
theorem flat_length (xs : List Nat) : (xs.flatMap (wds D 4)).length = 4 * xs.length := by
  induction xs with
  | nil => rfl
  | cons x xs ih => rw [List.flatMap_cons, List.length_append, wds_length, ih, List.length_cons]; omega
theorem flat_take_succ {xs : List Nat} {k : Nat} (h : k < xs.length) : (xs.take (k + 1)).flatMap (wds D 4) = (xs.take k).flatMap (wds D 4) ++ wds D 4 (nth xs k) := by
  rw [List.take_succ_eq_append_getElem h, List.flatMap_append, nth_lt h]
  simp

/-- an own slice made shorter -/
theorem Own.upto {k : IntKind} {t : TypeId} {B n c j : Nat} {w : World} {A : Option Addr} {xs : List Nat} (h : Own k t B w A n c xs) (hj : j ≤ n) : Own k t B w A j c (xs.take j) := by
  have hl := h.len
  refine ⟨by simp [hl]; omega, ?_⟩
  rcases h.2 with ⟨h2, h3⟩ | ⟨g, cap, cur, hv, hg, hh, hnc, hcm, hs, ht⟩
  · injection h2 with e1 e2 e3
    subst h3
    have : j = 0 := by omega
    subst this
    exact .inl ⟨by rw [e1, e3], rfl⟩
  · injection hv with e1 e2 e3
    refine .inr ⟨g, cap, cur, by rw [e1, e3], hg, hh, by omega, hcm, hs, ?_⟩
    rw [Nat.mul_one] at ht ⊢
    rw [List.map_take, ← ht, List.take_take, Nat.min_eq_left hj]

theorem dgt (x j : Nat) (hx : x < W) (hj : j < 4) : wrap64 (bits .and .u64 ((x : Int) / 2 ^ (16 * j)) 65535) = ((x / D ^ j % D : Nat) : Int) := by
  have e : x / 2 ^ (16 * j) < 18446744073709551616 := Nat.lt_of_le_of_lt (Nat.div_le_self _ _) hx
  have h := bits_and_u64_nat (x / 2 ^ (16 * j)) 65535 e (by omega)
  have e2 : x / 2 ^ (16 * j) &&& 65535 = x / 2 ^ (16 * j) % 65536 := Nat.and_two_pow_sub_one_eq_mod _ 16
  rw [e2] at h
  have e3 : (x : Int) / 2 ^ (16 * j) = ((x / 2 ^ (16 * j) : Nat) : Int) := by
    rw [Int.natCast_ediv, Int.natCast_pow]; rfl
  have e4 : D ^ j = 2 ^ (16 * j) := by rw [D_eq, show (65536 : Nat) = 2 ^ 16 from rfl, ← Nat.pow_mul]
  rw [e3, e4]
  refine Eq.trans (congrArg wrap64 h) ?_
  rw [D_eq]
  exact IntWalk.wrap64_in _ ⟨by omega, by omega⟩

/-- what a call gives that answers new digits -/
def GD (w : World) (ds : List Nat) (e : Ending) (w' : World) : Prop :=
  ∃ A n c, e = .returned (.slice A n c) ∧ Own .i64 3 w.heap.size w' A n c ds ∧ Below w.heap.size w w'

set_option maxHeartbeats 1000000 in
theorem digits3_any {v : Value} {x L : Nat} {w : World} (h : Num w v x L) (hL : L ≤ 137438953472) :
    Calls Try.prog 107 #[v] w (GD w (dg D x)) := by
  obtain ⟨A, n, c, xs, rfl, h1, h2, h3, h4⟩ := h
  have H := Lib.hid h1
  have HX := Lib.hid h2
  have HV := Lib.hid h3
  have HE := Lib.hid elI
  have hn : n ≤ 137438953472 := by omega
  clear h1 h2 h3 h4 hL
  go_enter Try.func107, Try.ntmps107
  go_wp2
  go_loopw [3, 4] (fun d i wr => ∃ (k : Nat) (B : Option Addr) (m e : Nat), Hid (Own .i64 3 w.heap.size wr B m e ((xs.take k).flatMap (wds D 4)) ∧ Below w.heap.size w wr) ∧ k ≤ n ∧ d = .slice B m e ∧ i = .int .i64 k) (fun _ i _ => n - (intOf i).toNat)
  case atStart => exact ⟨0, none, 0, 0, ⟨Own.nil, Below.refl _ _⟩, Nat.zero_le _, rfl, rfl⟩
  case round =>
    obtain ⟨k, B, m, e, hI, hk, rfl, rfl⟩ := hrel
    obtain ⟨wo, rfl⟩ : ∃ wo : World, wo = wr := ⟨_, rfl⟩
    by_cases hlt : k < n
    · obtain ⟨b, off, ea, hb, _⟩ := H.out.at hlt
      subst ea
      go_wp2
      go_loopw [3, 5] (fun d i wr => ∃ (j : Nat) (B : Option Addr) (m e : Nat), Hid (Own .i64 3 w.heap.size wr B m e ((xs.take k).flatMap (wds D 4) ++ wds D j (nth xs k)) ∧ Below w.heap.size w wr) ∧ j ≤ 4 ∧ d = .slice B m e ∧ i = .int .i64 j) (fun _ i _ => 4 - (intOf i).toNat)
      case atStart => exact ⟨0, B, m, e, ⟨by simpa [wds] using hI.out.1, hI.out.2⟩, by omega, rfl, rfl⟩
      case round =>
        obtain ⟨j, B, m, e, hJ, hj, rfl, rfl⟩ := hrel
        by_cases hlt2 : j < 4
        · obtain ⟨b, off, e, hb, hca⟩ := (H.out.below hJ.out.2).at hlt
          injection e with e; injection e with e1 e2
          subst e1 e2
          have hsz : Hid (m = 4 * k + j) := by
            show m = _
            have := hJ.out.1.len
            rw [List.length_append, flat_length, wds_length, List.length_take, H.out.len] at this
            omega
          have HD := Lib.hid (dgt (nth xs k) j (HX.out.nth W_pos k) hlt2)
          go_wp2_with (at_builtin; rw [HD.out]; (refine wpList_app rfl (.tmp 16) (.tmp 26) rfl HE.out (t := 3) (k := .i64) (B := w.heap.size) (ys := [nth xs k / D ^ j % D]) rfl rfl (hJ.out.1.alloc _) (Rd.lit1 wr _) (by have := hsz.out; omega) (by have := hJ.out.2.size; simp; omega) ?_); intro B1 e1 w1 ho1 hb1 _ _)
          go_roundw
          case rel =>
            refine ⟨j + 1, B1, _, e1, ⟨?_, (hJ.out.2.alloc hJ.out.2.size _).trans hb1⟩, by omega, rfl, by go_num⟩
            rw [wds_snoc, ← List.append_assoc]
            exact ho1
          case measure => simp [intOf]; omega
        · obtain rfl : j = 4 := by omega
          go_wp2
          go_roundw
          case rel =>
            refine ⟨k + 1, B, _, _, ⟨?_, hJ.out.2⟩, by omega, rfl, by go_num⟩
            rw [flat_take_succ (by rw [H.out.len]; exact hlt)]
            exact hJ.out.1
          case measure => simp [intOf]; omega
    · obtain rfl : k = n := by omega
      have HF : Hid (Own .i64 3 w.heap.size wo B m e (xs.flatMap (wds D 4)) ∧ Below w.heap.size w wo) := by
        have h := hI.out
        rw [List.take_of_length_le (by rw [H.out.len]; exact Nat.le_refl _)] at h
        exact h
      have hsz : m ≤ 549755813888 := by
        have := HF.out.1.len
        rw [flat_length, H.out.len] at this
        omega
      clear hI
      go_wp2
      go_loop [3] (fun d => ∃ q : Nat, Hid (∀ j, q ≤ j → nth (xs.flatMap (wds D 4)) j = 0) ∧ q ≤ m ∧ d = .slice B q e) (fun d => match d with | .slice _ q _ => q | _ => 0)
      case atStart => exact ⟨m, fun j hj => nth_ge (by rw [HF.out.1.len]; exact hj), Nat.le_refl _, rfl⟩
      case round =>
        obtain ⟨q, hZ, hq, rfl⟩ := hrel
        have fin : (q = 0 ∨ nth (xs.flatMap (wds D 4)) (q - 1) ≠ 0) → GD w (dg D x) (.returned (.slice B q e)) wo := fun ht => by
          have e1 := strip_of_top (xs := xs.flatMap (wds D 4)) (m := q) (by rw [HF.out.1.len]; exact hq) hZ.out ht
          rw [strip_eq_dg D_gt (flat_all xs), val_flat HX.out, HV.out] at e1
          refine ⟨B, q, e, rfl, ?_, HF.out.2⟩
          rw [e1]
          exact HF.out.1.upto hq
        have FIN := Lib.hid fin
        clear fin
        by_cases h0 : q = 0
        · subst h0
          go_wp2
          go_ret
          exact FIN.out (by simp)
        · obtain ⟨p, rfl⟩ : ∃ p, q = p + 1 := ⟨q - 1, by omega⟩
          obtain ⟨b1, off1, ea, _, hcd⟩ := HF.out.1.rd.at (i := p) (by omega)
          subst ea
          by_cases hz : nth (xs.flatMap (wds D 4)) p = 0
          · have hc' : wo.cell? ⟨b1, off1 + p, none⟩ = some (.int .i64 0) := by rw [hcd, hz]; rfl
            have HZ := Lib.hid hz
            have hcp := HF.out.1.cap
            have i1 : p + 1 ≤ e := by omega
            clear hz hcd hcp
            go_wp2
            go_round
            case rel =>
              refine ⟨p, fun j hj => ?_, by omega, rfl⟩
              by_cases hjm : j = p
              · subst hjm; exact HZ.out
              · exact hZ.out j (by omega)
            case measure => simp
          · have hne : (((nth (xs.flatMap (wds D 4)) p : Nat) : Int) == 0) = false := by rw [beq_eq_false_iff_ne]; omega
            have HZ := Lib.hid hz
            clear hz
            go_wp2
            go_ret
            exact FIN.out (.inr HZ.out)

end Go.Proofs.Ytikinbnmphnfeaa
