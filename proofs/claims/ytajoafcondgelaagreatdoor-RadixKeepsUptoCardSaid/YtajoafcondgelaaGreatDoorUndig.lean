/-
  Walks: slices.ContainsFunc, slices.IndexFunc with div.Undigits's closure: no digit is too great. slices.Backward over words: its iterator's contract (after the kit's page on a range over a function). div.Undigits: the number with these digits.
-/
import Derived.Test.YtajoafcondgelaaGreatDoorDigQ
import Derived.RangeFuncNested
import Derived.RangeFuncBound
import Derived.RangeFuncCalls
import Derived.RangeFuncLeaves
import Derived.RangeFuncBox
import Derived.Shelf.Abstract
import Derived.Shelf.RegionOpen
import Derived.WalkKit
import Derived.OwnWalkIn
import Derived.TacticsInMore
import Derived.LoopNIn
import Derived.LoopIn
import Derived.Test.YtajoafcondgelaaGreatDoorLimbD
namespace Go.Proofs.YtajoafcondgelaaGreatDoor
open Go.RowKit
set_option linter.unusedVariables false

theorem und1_any {B d b : Nat} {w : World} (hc : w.cell? ⟨B, 0, none⟩ = some (.int .u64 (b : Int))) (hd : d < b) :
    Calls Tryz.prog 49 #[.int .u64 (d : Int), .pointer (some ⟨B, 0, none⟩)] w fun e w' => e = .returned (.bool false) ∧ w = w' := by
  have h1 : ¬ ((b : Int) ≤ (d : Int)) := by omega
  go_enter Tryz.func49, Tryz.ntmps49
  go_wp2
  go_ret
  exact ⟨by simp, rfl⟩
set_option maxHeartbeats 1000000 in
theorem indexFunc_none {A : Option Addr} {n c B b : Nat} {xs : List Nat} {w : World} (h : Rd .u64 w A n c xs) (hc : w.cell? ⟨B, 0, none⟩ = some (.int .u64 (b : Int))) (ha : All b xs) (h0 : 0 < b) (hn : n ≤ 1099511627776) :
    Calls Tryz.prog 78 #[.slice A n c, .func (.func 49) #[] #[.pointer (some ⟨B, 0, none⟩)]] w fun e w' => e = .returned (.int .i64 (-1)) ∧ w = w' := by
  have H := Lib.hid h
  have HA := Lib.hid ha
  have HC := Lib.hid hc
  clear h ha hc
  go_enter Tryz.func78, Tryz.ntmps78
  go_wp2
  go_loop [8] (fun i => ∃ k : Nat, k ≤ n ∧ i = .int .i64 (k : Int)) (fun i => n - (intOf i).toNat)
  case atStart => exact ⟨0, Nat.zero_le _, rfl⟩
  case round =>
    obtain ⟨k, hk, rfl⟩ := hrel
    by_cases hlt : k < n
    · obtain ⟨b2, off, ea, hb, hca⟩ := H.out.at hlt
      subst ea
      have i1 : (0 : Int) ≤ (k : Int) := by omega
      have i2 : (k : Int) < (n : Int) := by omega
      have HD : Hid (nth xs k < b) := HA.out.nth h0 k
      go_wp2_with (go_at_call 49; refine (und1_any HC.out HD.out).mono ?_; rintro e w' ⟨rfl, rfl⟩)
      go_round
      case rel => exact ⟨k + 1, by omega, by go_num⟩
      case measure => simp [intOf]; omega
    · have i3 : ¬ ((k : Int) < (n : Int)) := by omega
      go_wp2
      go_ret
      exact ⟨rfl, rfl⟩
theorem containsFunc_none {A : Option Addr} {n c B b : Nat} {xs : List Nat} {w : World} (h : Rd .u64 w A n c xs) (hc : w.cell? ⟨B, 0, none⟩ = some (.int .u64 (b : Int))) (ha : All b xs) (h0 : 0 < b) (hn : n ≤ 1099511627776) :
    Calls Tryz.prog 48 #[.slice A n c, .func (.func 49) #[] #[.pointer (some ⟨B, 0, none⟩)]] w fun e w' => e = .returned (.bool false) ∧ w = w' := by
  have C := Lib.hid (indexFunc_none h hc ha h0 hn)
  clear h hc ha
  go_enter Tryz.func48, Tryz.ntmps48
  go_wp2_with (go_at_call 78; refine C.out.mono ?_; rintro e w' ⟨rfl, rfl⟩)
  go_ret
  exact ⟨rfl, rfl⟩
end Go.Proofs.YtajoafcondgelaaGreatDoor
namespace Go.Proofs.YtajoafcondgelaaGreatDoor
open Go.RowKit Go.Shelf
set_option linter.unusedVariables false
attribute [local go_sem] Oper.semAt_some

/-- what has come when k rounds are over: the last k, backwards -/
def backs (xs : List Nat) (k : Nat) : List (Nat × Nat) := (List.range k).map fun j => (xs.length - 1 - j, nth xs (xs.length - 1 - j))
theorem backs_succ (xs : List Nat) (k : Nat) : backs xs (k + 1) = backs xs k ++ [(xs.length - 1 - k, nth xs (xs.length - 1 - k))] := by simp [backs, List.range_succ]
theorem backs_length (xs : List Nat) (k : Nat) : (backs xs k).length = k := by simp [backs]
def encB (bb : Nat) (x : Nat × Nat) : Array Value := #[.int .i64 (x.1 : Int), .int .u64 ((x.2 % bb : Nat) : Int)]

/-- what a round keeps: what lay below block n₀, and the box that the iterator reads in every round -/
def KpB (n₀ Bs : Nat) (A B : World) : Prop := Below n₀ A B ∧ ∀ v, A.cell? ⟨Bs, 0, none⟩ = some v → B.cell? ⟨Bs, 0, none⟩ = some v
set_option maxRecDepth 100000 in
set_option maxHeartbeats 2000000 in
theorem back1_in (F : Fence) (n : Nat) (h7 : F.fn 79) (hro : F.round = none) (hn : 1 ≤ n) (l Bs n₀ b off len cap bb : Nat) (zs : List Nat) (hz : ∀ j, nth zs j < bb) (hl : zs.length = len) (hreach : len ≤ 1099511627776) (hb : b < n₀) (J Jx : List (Nat × Nat) → World → Prop)
    (hY : ∀ pre x W, J pre W → pre.length < len → YieldAt F (n - 1) Tryz.prog l (encB bb x) W fun e W' =>
      (e = .returned (.bool true) ∧ J (pre ++ [x]) W' ∧ KpB n₀ Bs W W') ∨ (e = .returned (.bool false) ∧ Jx (pre ++ [x]) W'))
    (W : World) (hBs : W.cell? ⟨Bs, 0, none⟩ = some (.slice (some ⟨b, off, none⟩) len cap)) (hc : ∀ j, j < len → W.cell? ⟨b, off + j, none⟩ = some (.int .u64 ((nth zs j : Nat) : Int))) (h0 : J [] W) :
    CallsIn F n Tryz.prog 79 #[.func (.yield l) #[] #[], .pointer (some ⟨Bs, 0, none⟩)] W fun e W' => (∃ v, e = .returned v) ∧
      ((∃ ys, ys = backs zs len ∧ J ys W') ∨ (∃ pre, (∃ k, k ≤ len ∧ pre = backs zs k) ∧ Jx pre W')) := by
  refine callsIn_of_wp Tryz.func79 rfl h7 ?_ hro
  simp only [Tryz.ntmps79, List.size_toArray, List.length_cons, List.length_nil, Nat.reduceAdd, Nat.reduceSub, Array.replicate_succ, Array.replicate_zero, List.push_toArray, List.append_toArray, List.nil_append, List.cons_append]
  gi_wp2
  gi_loopw [3] (fun i wr => ∃ k : Nat, k ≤ len ∧ i = .int .i64 ((len : Int) - 1 - k) ∧ J (backs zs k) wr ∧ KpB n₀ Bs W wr)
    (fun i _ => (intOf i + 1).toNat)
  case atStart => exact ⟨0, Nat.zero_le _, by simp, h0, Below.refl _ _, fun _ h => h⟩
  case round =>
    obtain ⟨k, hk, rfl, hJs, hnx⟩ := hrel
    have hBs' : wr.cell? ⟨Bs, 0, none⟩ = some (.slice (some ⟨b, off, none⟩) len cap) := hnx.2 _ hBs
    by_cases hlt : k < len
    · obtain ⟨m, hm⟩ : ∃ m, m = len - 1 - k := ⟨_, rfl⟩
      have em : (len : Int) - 1 - (k : Int) = (m : Int) := by omega
      rw [em]
      have hm1 : m < len := by omega
      have hcx : wr.cell? ⟨b, off + m, none⟩ = some (.int .u64 ((nth zs m : Nat) : Int)) := (hnx.1.cell (p := ⟨b, off + m, none⟩) hb).trans (hc m hm1)
      obtain ⟨fn, tmps, assign, body, hy, hR⟩ := hY _ (m, nth zs m) wr hJs (by rw [backs_length]; exact hlt)
      simp only [encB] at hy
      rw [Nat.mod_eq_of_lt (hz m)] at hy
      have HM := Lib.hid hm
      clear hm em
      have i1 : (0 : Int) ≤ (m : Int) := by omega
      have i2 : (m : Int) < (len : Int) := by omega
      gi_wp2
      refine hR.mono ?_
      rintro e W3 (⟨rfl, hJ3, hk3⟩ | ⟨rfl, hJx3⟩)
      · gi_wp2
        go_roundw
        case rel => exact ⟨k + 1, by omega, by have := HM.out; go_num, by rw [backs_succ, hl, ← HM.out]; exact hJ3, hnx.1.trans hk3.1, fun v h => hk3.2 v (hnx.2 v h)⟩
        case measure => simp [intOf]
      · gi_wp2
        refine bodyPost_ret (results_none rfl _ _ _) rfl ?_
        exact ⟨⟨_, rfl⟩, .inr ⟨_, ⟨k + 1, by omega, by rw [backs_succ, hl, ← HM.out]⟩, hJx3⟩⟩
    · obtain rfl : k = len := by omega
      have em : (k : Int) - 1 - (k : Int) = -1 := by omega
      rw [em]
      gi_wp2
      go_end0
      exact ⟨⟨_, rfl⟩, .inl ⟨_, rfl, hJs⟩⟩
set_option maxRecDepth 100000 in
set_option maxHeartbeats 1000000 in
/-- .. of an empty slice: no round. -/
theorem back1_nil_in (F : Fence) (n : Nat) (h7 : F.fn 79) (hro : F.round = none) (l Bs cap : Nat) (A : Option Addr) (J : List (Nat × Nat) → World → Prop) (W : World) (hBs : W.cell? ⟨Bs, 0, none⟩ = some (.slice A 0 cap)) (h0 : J [] W) :
    CallsIn F n Tryz.prog 79 #[.func (.yield l) #[] #[], .pointer (some ⟨Bs, 0, none⟩)] W fun e W' => (∃ v, e = .returned v) ∧ J [] W' := by
  refine callsIn_of_wp Tryz.func79 rfl h7 ?_ hro
  simp only [Tryz.ntmps79, List.size_toArray, List.length_cons, List.length_nil, Nat.reduceAdd, Nat.reduceSub, Array.replicate_succ, Array.replicate_zero, List.push_toArray, List.append_toArray, List.nil_append, List.cons_append]
  gi_wp2
  gi_loopw [3] (fun i wr => i = .int .i64 (-1) ∧ J [] wr) (fun _ _ => 0)
  case atStart => exact ⟨rfl, h0⟩
  case round =>
    obtain ⟨rfl, hJs⟩ := hrel
    gi_wp2
    go_end0
    exact ⟨⟨_, rfl⟩, hJs⟩
set_option maxHeartbeats 1000000 in
/-- **slices.Backward(s)**: the slice value is boxed; the function value captures the box. -/
theorem backward_in (F : Fence) (n : Nat) (h5 : F.fn 50) (hro : F.round = none) (a : Option Addr) (len cap : Nat) (w : World) :
    CallsIn F n Tryz.prog 50 #[.slice a len cap] w fun e w' => e = .returned (.func (.func 79) #[] #[.pointer (some ⟨w.heap.size, 0, none⟩)]) ∧ w' = w.alloc (.cells #[.slice a len cap] 22) := by
  refine callsIn_of_wp Tryz.func50 rfl h5 ?_ hro
  simp only [Tryz.ntmps50, List.size_toArray, List.length_cons, List.length_nil, Nat.reduceAdd, Nat.reduceSub, Array.replicate_succ, Array.replicate_zero, List.push_toArray, List.append_toArray, List.nil_append, List.cons_append]
  gi_wp2
  go_ret
  exact ⟨rfl, rfl⟩
/-- what slices.Backward hands back: all pairs, the last first; or the first k of them -/
theorem backward_stops (F : Fence) (n : Nat) (h7 : F.fn 79) (hro : F.round = none) (hn : 1 ≤ n) (Bs n₀ bb : Nat) (A : Option Addr) (m c : Nat) (xs : List Nat) (w : World) (hz : ∀ j, nth xs j < bb) (hm : m ≤ 1099511627776) (hBs : Bs < w.heap.size) (hn₀ : n₀ ≤ w.heap.size)
    (hc : w.cell? ⟨Bs, 0, none⟩ = some (.slice A m c)) (hR : Rd .u64 w A m c xs) (hA : ∀ a, A = some a → m ≠ 0 → a.block < n₀) :
    SeqStopsK F n Tryz.prog 79 #[.pointer (some ⟨Bs, 0, none⟩)] (encB bb) (KpB n₀ Bs) (fun ys => ys = backs xs m) (fun pre => ∃ k, k ≤ m ∧ pre = backs xs k) m w := fun l J Jx W hW _ _ hY h0 => by
  have hc' := (hW.cell (p := ⟨Bs, 0, none⟩) hBs).trans hc
  rcases Nat.eq_zero_or_pos m with e0 | e0
  · subst e0
    exact (back1_nil_in F n h7 hro l Bs c A J W hc' h0).mono fun e W' ⟨he, hj⟩ => ⟨he, .inl ⟨_, rfl, hj⟩⟩
  · obtain ⟨b, off, e, hb, hcs⟩ := (hR.below hW).2 (by omega)
    subst e
    exact back1_in F n h7 hro hn l Bs n₀ b off m c bb xs hz hR.len hm (hA _ rfl (by omega)) J Jx hY W hc' hcs h0
end Go.Proofs.YtajoafcondgelaaGreatDoor
namespace Go.Proofs.YtajoafcondgelaaGreatDoor
open Go.RowKit Go.Shelf
set_option linter.unusedVariables false
attribute [local go_sem] Oper.semAt_some

/-- the number of the digits that have come -/
def fv (b : Nat) (pre : List (Nat × Nat)) : Nat := pre.foldl (fun a p => a * b + p.2 % b) 0
theorem fv_snoc (b : Nat) (pre : List (Nat × Nat)) (x : Nat × Nat) : fv b (pre ++ [x]) = fv b pre * b + x.2 % b := by simp [fv]
theorem fv_lt' {b : Nat} (hb : 0 < b) : ∀ (pre : List (Nat × Nat)) (a m : Nat), a < b ^ m → pre.foldl (fun a p => a * b + p.2 % b) a < b ^ (m + pre.length)
  | [], a, m, h => h
  | x :: pre, a, m, h => by
    have h1 := Nat.mod_lt x.2 hb
    have h2 : (a + 1) * b ≤ b ^ m * b := Nat.mul_le_mul_right _ h
    rw [Nat.add_mul, Nat.one_mul] at h2
    have h3 := fv_lt' hb pre (a * b + x.2 % b) (m + 1) (by show _ < b ^ m * b; omega)
    rw [List.foldl_cons, List.length_cons, show m + (pre.length + 1) = m + 1 + pre.length by omega]
    exact h3
theorem fv_lt {b : Nat} (hb : 0 < b) (pre : List (Nat × Nat)) : fv b pre < b ^ pre.length := by
  have := fv_lt' hb pre 0 0 (by simp)
  rwa [Nat.zero_add] at this
theorem fv_backs {b : Nat} {xs : List Nat} (hz : ∀ j, nth xs j < b) : ∀ k, k ≤ xs.length → fv b (backs xs k) = val b (xs.drop (xs.length - k))
  | 0, _ => by simp [backs, fv, val]
  | k + 1, hk => by
    rw [backs_succ, fv_snoc, fv_backs hz k (by omega), Nat.mod_eq_of_lt (hz _)]
    have hlt : xs.length - (k + 1) < xs.length := by omega
    rw [List.drop_eq_getElem_cons hlt, val]
    have e1 : xs.length - 1 - k = xs.length - (k + 1) := by omega
    have e2 : xs.length - (k + 1) + 1 = xs.length - k := by omega
    rw [e1, e2, nth_lt hlt, Nat.mul_comm]
    omega
theorem row_slice {wr : World} {base : Nat} {e : TypeId} {v : Value} {k : Nat} {xs : List Value} (h : wr.ownsRow base e 1 v k xs) : ∃ A c, v = .slice A k c := by
  rcases h.2 with ⟨hv, h0⟩ | ⟨g, cap, _, hv, _⟩
  · subst h0; exact ⟨none, 0, hv⟩
  · exact ⟨_, cap, hv⟩
/-- append of one word, within a fence -/
theorem wpListIn_app1 {F : Fence} {nF : Nat} {P : Program} {T t : TypeId} {k : IntKind} {B : Nat} {w : World} {A : Option Addr} {n c y : Nat} {xs : List Nat} {ops : Array Oper} {rest : List Oper} {o : Oper} {a : Act} {Q : Exit → Act → World → Prop} (hgd : o.guard = none) (s x : Operand)
    (ho : o.op = .call { callee := .builtin .append, args := #[s, x], argTypes := #[T, T] }) (he : Elem P T t k)
    (hs : a.eval s = .slice A n c) {ad : Addr} (hx : a.eval x = .slice (some ad) 1 1) (hown : Own k t B w A n c xs) (hc : w.cell? ad = some (.int k (y : Int))) (hlen : n + 1 ≤ 1099511627776) (hB : B ≤ w.heap.size)
    (h : ∀ A' c' w', Own k t B w' A' (n + 1) c' (xs ++ [y]) → w.grownBy w' (Value.slice A n c).ownBlock → wpListIn F nF P ops Q rest (a.put o.dst (.slice A' (n + 1) c')) w') : wpListIn F nF P ops Q (o :: rest) a w := by
  obtain ⟨hT, hinfo⟩ := he
  obtain ⟨i, hi, hz, hs1, hb⟩ := info_parts hinfo
  refine wpListIn_append_own w hgd s x T ho B t i (.int k 0) 1 8 hT hi hz hs1 hb rfl (by decide) _ n _ hs hown ad 1 1 [.int k (y : Int)] hx rfl ?_ (by simp [Value.oneCell']) (by simp only [maxLen]; omega) (by omega) hB ?_
  · intro j u hj
    rcases j with _ | j
    · simp at hj; subst hj
      have : ad.add 0 = ad := by unfold Addr.add; split <;> simp_all
      rw [this]; exact hc
    · simp at hj
  · intro v' w' h1 h2 _
    obtain ⟨A', c', rfl⟩ := row_slice h1
    refine h A' c' w' ?_ h2
    unfold Own
    rw [List.map_append]
    exact h1
theorem kpb_b {n₀ Bs : Nat} {w : World} (h : n₀ ≤ w.heap.size) (wr : World) (l : Nat) (o o' : Obj) (hl : w.heap.size ≤ l) (e : wr.heap[l]? = some o) (hc : o.isCells = false) (hw : o.isWalk = false) : KpB n₀ Bs wr (wr.putObj l o') :=
  ⟨belowK_b (w := w) h wr l o o' hl e hc hw, fun v hv => cell_kept hv (grownBy_putObj' wr l o') (fun r e' => by cases e'; exact ⟨_, e, hc⟩)⟩
theorem kpb_t {n₀ Bs : Nat} {X Y Z : World} (h : KpB n₀ Bs X Y) (h' : KpB n₀ Bs Y Z) : KpB n₀ Bs X Z := ⟨h.1.trans h'.1, fun v e => h'.2 v (h.2 v e)⟩
theorem top_lt {v b z k : Nat} (h : v < W ^ k) (hb : b < W) (hz : z < W) : (v * b + z) / W ^ k < W := by
  refine Nat.div_lt_of_lt_mul ?_
  have h1 : (v + 1) * W ≤ W ^ k * W := Nat.mul_le_mul_right _ h
  have h2 : v * b ≤ v * W := Nat.mul_le_mul_left _ (Nat.le_of_lt hb)
  rw [Nat.add_mul, Nat.one_mul] at h1
  omega
theorem top_val (k x : Nat) : val W (wds W k x ++ [x / W ^ k]) = x := by
  rw [val_append, val_wds, wds_length]
  simp only [val, Nat.mul_zero, Nat.add_zero]
  exact Nat.mod_add_div _ _
theorem cell_setOther {X : World} {B B' : Nat} {u v : Value} (h : X.cell? ⟨B, 0, none⟩ = some v) (hne : B ≠ B') : (X.setCell ⟨B', 0, none⟩ u).cell? ⟨B, 0, none⟩ = some v := by
  simp only [World.cell?] at *
  rw [Below.heap_setCell _ _ _ _ hne]
  exact h
theorem cell_lt' {X : World} {B : Nat} {v : Value} (h : X.cell? ⟨B, 0, none⟩ = some v) : B < X.heap.size := by
  by_cases hlt : B < X.heap.size
  · exact hlt
  · simp only [World.cell?] at h
    rw [Array.getElem?_eq_none (by omega)] at h
    simp at h
set_option maxRecDepth 100000 in
set_option maxHeartbeats 2000000 in
theorem undigits_any {A : Option Addr} {n c b : Nat} {ds : List Nat} {w : World} (h : Rd .u64 w A n c ds) (ha : All b ds) (hb : 2 ≤ b) (hbW : b < W) (hn : n ≤ 1073741824) :
    Calls Tryz.prog 27 #[.slice A n c, .int .u64 (b : Int)] w (GNE w (val b ds) n 0) := by
  have d1 : ¬ ((b : Int) < 2) := by omega
  have H := Lib.hid h
  have HA := Lib.hid ha
  have HB := Lib.hid (And.intro hb hbW)
  have hn2 : n ≤ 1099511627776 := by omega
  have C1 := Lib.hid (fun (o : Obj) => h.below ((Below.refl w.heap.size w).alloc (Nat.le_refl _) o))
  have HAd : Hid (∀ a : Addr, A = some a → n ≠ 0 → a.block < w.heap.size) := by
    intro a ea h0
    obtain ⟨b2, off, e, hb2, _⟩ := h.at (i := 0) (by omega)
    rw [ea] at e
    injection e with e
    subst e
    exact hb2
  clear h ha hb hbW
  refine (callsIn_wide (n := 6)).1 ?_
  refine callsIn_of_wp_marks Tryz.func27 rfl trivial ?_ rfl
  simp only [Tryz.ntmps27, List.size_toArray, List.length_cons, List.length_nil, Nat.reduceAdd, Nat.reduceSub, Array.replicate_succ, Array.replicate_zero, List.push_toArray, List.append_toArray, List.nil_append, List.cons_append]
  gi_wp2_with (first
    | (refine ⟨trivial, ?_⟩; gi_at_call 48; refine (callsIn_wide.2 (containsFunc_none (C1.out _) (Boxed.new w 28 (.int .u64 (b : Int))).cell HA.out (by have := HB.out.1; omega) hn2)).mono ?_; rintro e w' ⟨rfl, rfl⟩)
    | (refine ⟨trivial, ?_⟩; gi_at_call 50; refine (backward_in Fence.wide _ trivial rfl _ _ _ _).mono ?_; rintro e w' ⟨rfl, rfl⟩))
  have bB := Boxed.new w 28 (.int .u64 (b : Int))
  have bA := Boxed.new (w.alloc (.cells #[.int .u64 (b : Int)] 28)) 23 (.slice none 0 0)
  have bS := Boxed.new ((w.alloc (.cells #[.int .u64 (b : Int)] 28)).alloc (.cells #[.slice none 0 0] 23)) 22 (.slice A n c)
  simp only [World.size_alloc] at bA bS
  have hB0 : Below w.heap.size w (((w.alloc (.cells #[.int .u64 (b : Int)] 28)).alloc (.cells #[.slice none 0 0] 23)).alloc (.cells #[.slice A n c] 22)) := (((Below.refl _ w).alloc (Nat.le_refl _) _).alloc (by simp) _).alloc (by simp; omega) _
  refine wpIn_rangeFunc_ownG rfl (by omega) (gf := 79) (lb := #[.pointer (some ⟨w.heap.size + 1 + 1, 0, none⟩)]) rfl trivial (enters_of Tryz.func79 (by kernel_rfl) rfl)
    (backward_stops Fence.wide 5 trivial rfl (by omega) (w.heap.size + 1 + 1) w.heap.size b A n c ds _ (fun j => HA.out.nth (by have := HB.out.1; omega) j) hn2 (by simp) (by simp; omega) bS.cell (H.out.below hB0) HAd.out) kpb_t (kpb_b (by simp; omega)) (Below.refl _ _) (fun _ => rfl)
    (fun pre wr => (∃ v, Boxed wr (w.heap.size + 1) 23 v ∧ wr.ownsRow w.heap.size 28 1 v (dg W (fv b pre)).length ((dg W (fv b pre)).map (iv .u64)) ∧ True) ∧ (Boxed wr w.heap.size 28 (.int .u64 (b : Int)) ∧ Below w.heap.size w wr))
    (fun _ _ _ => False)
    (OwnFrom.and (Own.from (holdsRow_own w.heap.size (w.heap.size + 1) 23 28 1 (fun pre => (dg W (fv b pre)).length) (fun pre => (dg W (fv b pre)).map (iv .u64)) (fun _ _ => True)) _) (OwnFrom.and (Own.from (boxed_own _ _ _) _) (ownFrom_below (Nat.le_refl _) (by simp; omega))))
    (fun _ _ _ _ _ hs _ _ => hs)
    ⟨⟨_, bA.alloc _, by simp [fv, dg_zero W_gt]; exact World.ownsRow_nil _ _ _ _, trivial⟩, (bB.alloc _).alloc _, hB0⟩
    (fun x => { tmps := #[.slice A n c, .int .u64 (b : Int), undef, .pointer (some ⟨w.heap.size, 0, none⟩), .slice none 0 0, .int .i64 0, .pointer (some ⟨w.heap.size + 1, 0, none⟩), undef, .int .u64 ((x.2 % b : Nat) : Int), undef, undef, .int .u64 (b : Int), .bool false, .bool false, .slice A n c, .func (.func 49) #[] #[.pointer (some ⟨w.heap.size, 0, none⟩)], .bool false, .bool false, .slice A n c, .func (.func 79) #[] #[.pointer (some ⟨w.heap.size + 1 + 1, 0, none⟩)], .int .i64 (x.1 : Int), .int .u64 ((x.2 % b : Nat) : Int), undef, undef, undef, undef, undef, undef, undef, undef, undef, undef, undef, undef, undef, undef], defers := [] }) ?assign ?body ?done ?stop
  case assign =>
    intro l x wr K hK
    unfold encB
    gi_wp2
    first | exact hK | (push_cast at hK; exact hK)
  case stop =>
    rintro D cc pre wr _ _ h _
    exact h.elim
  case body =>
    rintro l pre x wr ⟨⟨v, bx, hrow, -⟩, bb, hB⟩ hpl
    obtain ⟨A1, c1, rfl⟩ := row_slice hrow
    have hcA := bx.cell
    have hcB := bb.cell
    have hfA := bx.frozen
    have hb0 : 0 < b := by have := HB.out.1; omega
    have hm : x.2 % b < b := Nat.mod_lt _ hb0
    have hl1 : (dg W (fv b pre)).length ≤ pre.length := dg_len W_gt (Nat.lt_of_lt_of_le (fv_lt hb0 pre) (Nat.pow_le_pow_left (Nat.le_of_lt HB.out.2) _))
    have HO : Hid (Own .u64 28 w.heap.size wr A1 (dg W (fv b pre)).length c1 (dg W (fv b pre))) := hrow
    obtain ⟨V, hV⟩ : ∃ V, V = fv b pre * b + x.2 % b := ⟨_, rfl⟩
    obtain ⟨q, hq⟩ : ∃ q, q = V / W ^ (dg W (fv b pre)).length := ⟨_, rfl⟩
    have C : Hid (Calls Tryz.prog 51 #[.slice A1 (dg W (fv b pre)).length c1, .int .u64 (b : Int), .int .u64 ((x.2 % b : Nat) : Int)] wr (Gives2 .u64 28 wr (wds W (dg W (fv b pre)).length V) (.int .u64 (q : Int)))) := by
      have h := lmulAdd_any (y := b) (z := x.2 % b) HO.out.rd (dg_all W_gt _) rfl HB.out.2 rfl (Nat.lt_trans hm HB.out.2) (by omega)
      rw [dg_val W_gt, ← hV, ← hq] at h
      exact h
    have hv1 : fv b pre < W ^ (dg W (fv b pre)).length := by have := val_lt (dg_all W_gt (fv b pre)); rwa [dg_val W_gt] at this
    have HT : Hid (q < W ∧ val W (wds W (dg W (fv b pre)).length V ++ [q]) = fv b (pre ++ [x])) := by
      refine ⟨?_, ?_⟩
      · rw [hq, hV]; exact top_lt hv1 HB.out.2 (Nat.lt_trans hm HB.out.2)
      · rw [fv_snoc, ← hV, hq]; exact top_val _ _
    clear hV hq
    have HL := Lib.hid hl1
    have hpl' : pre.length < 1073741824 := Nat.lt_of_lt_of_le hpl hn
    clear hpl hl1 hv1
    gi_wp2_with (first
      | (refine ⟨trivial, ?_⟩; gi_at_call 51; refine (CallsIn.inRound l (callsIn_wide.2 C.out)).mono ?_; rintro e w2 ⟨A2, n2, c2, rfl, ho2, hb2⟩)
      | (gi_at_builtin; refine wpListIn_app1 rfl _ _ rfl elW rfl rfl (ho2.alloc _) (Boxed.new _ _ _).cell (by have := ho2.len; rw [wds_length] at this; have := HL.out; omega) (by have := hb2.size; simp; omega) ?_; intro A3 c3 w3 ho3 hg3)
      | (refine ⟨trivial, ?_⟩; gi_at_call 46; refine (CallsIn.inRound l (callsIn_wide.2 (nnorm_any (x := fv b (pre ++ [x])) (L := n2 + 1) ⟨_, _, _, _, rfl, ho3.rd, (wds_all W_pos _ _).append (All.cons HT.out.1 All.nil), HT.out.2, Nat.le_refl _⟩ (by have := ho2.len; rw [wds_length] at this; have := HL.out; omega)))).mono ?_; rintro e w4 ⟨A4, n4, c4, rfl, ho4, hb4, hl4⟩; have hB4 : Below wr.heap.size wr w4 := ((hb2.alloc hb2.size _).grown hg3 (by have := hb2.size; simp; omega) (fun j ej => (World.ownsRow.lt ho2 j ej).1)).trans (hb4.mono (by have := hb2.size; have := hg3.size; simp at this; omega)); have bx4 : Boxed w4 (w.heap.size + 1) 23 (.slice A1 (dg W (fv b pre)).length c1) := (hB4.block _ bx.lt).trans bx; have hc4 := bx4.cell; have hf4 := bx4.frozen))
    have bb4 : Boxed w4 w.heap.size 28 (.int .u64 (b : Int)) := (hB4.block _ bb.lt).trans bb
    have ho5 := ho4.mono (B' := w.heap.size) (by have := hB.size; have := hb2.size; have := hg3.size; simp at this; omega)
    have e4 := ho4.len
    refine ⟨((⟨hB4.size, fun k o hk _ => (hB4.block k (Array.getElem?_eq_some_iff.1 hk).1).trans hk⟩ : KeepsOthers wr w4).trans (KeepsOthers.setCell _ _ _)).from _, ⟨(hB4.mono hB.size).setCell (p := ⟨w.heap.size + 1, 0, none⟩) (Nat.le_succ _) _, fun v hv => cell_setOther ((hB4.cell (p := ⟨w.heap.size + 1 + 1, 0, none⟩) (cell_lt' hv)).trans hv) (by omega)⟩, ⟨_, bx4.set _, ?_, trivial⟩, bb4.other (by omega) _, (hB.trans (hB4.mono hB.size)).setCell (p := ⟨w.heap.size + 1, 0, none⟩) (Nat.le_succ _) _⟩
    rw [e4]
    exact ho5.kept (grownBy_setCell' w4 (w.heap.size + 1) _) (.inr (bx4.not_row (by decide) ho5).symm)
  case done =>
    rintro Dk ys wr hD rfl ⟨⟨v, bx, hrow, -⟩, bb, hB⟩ hK
    obtain ⟨A1, c1, rfl⟩ := row_slice hrow
    rw [fv_backs (fun j => HA.out.nth (by have := HB.out.1; omega) j) n (by rw [H.out.len]; exact Nat.le_refl _), H.out.len, Nat.sub_self, List.drop_zero] at hrow bx
    have hcA := bx.cell
    have HO : Hid (Own .u64 28 w.heap.size wr A1 (dg W (val b ds)).length c1 (dg W (val b ds))) := hrow
    have HL : Hid ((dg W (val b ds)).length ≤ n) := by
      have h1 := val_lt HA.out
      rw [H.out.len] at h1
      exact dg_len W_gt (Nat.lt_of_lt_of_le h1 (Nat.pow_le_pow_left (Nat.le_of_lt HB.out.2) _))
    gi_wp2_with (refine ⟨trivial, ?_⟩; gi_at_call 46; refine (callsIn_wide.2 (nnorm_any (x := val b ds) (L := (dg W (val b ds)).length) (HO.out.num (Nat.le_refl _)) (Nat.le_trans HL.out hn2))).mono ?_; rintro e w4 ⟨A4, n4, c4, rfl, ho4, hb4, hl4⟩)
    have hK4 : w4.heap[Dk]? = some (Obj.deferred (some [])) := (hb4.block _ (Array.getElem?_eq_some_iff.1 hK).1).trans hK
    refine ⟨by simp, .inl ⟨_, _, rfl, run_takeDeferred hK4, ?_⟩⟩
    have hB4 := (hB.trans (hb4.mono hB.size)).trans (belowK_b (w := w) (Nat.le_refl _) w4 Dk _ (.deferred none) (by simp at hD; omega) hK4 rfl rfl)
    have ho5 : Own .u64 28 w.heap.size (w4.putObj Dk (.deferred none)) A4 n4 c4 (dg W (val b ds)) := ownsRow_putObj (ho4.mono hB.size) _ hK4 rfl
    exact ⟨_, results_tmp2 rfl _ _ _, A4, n4, c4, rfl, ho5, hB4, Nat.le_trans hl4 HL.out⟩
end Go.Proofs.YtajoafcondgelaaGreatDoor
