/-
  Walks: slices.ContainsFunc, slices.IndexFunc with div.Undigits's closure: no digit is too great. slices.Backward over words: its iterator's contract (after the kit's page on a range over a function). div.Undigits: the number with these digits.
-/
import Derived.Test.YtphofjinncbaaaaDigQ
import Derived.RangeFuncNested
import Derived.RangeFuncBound
import Derived.RangeFuncCalls
import Derived.RangeFuncLeaves
import Derived.RangeFuncBox
import Derived.Shelf.Abstract
import Derived.Shelf.RegionOpen
import Derived.WalkKit
import Derived.OwnWalkIn
import Derived.TacticsInMore
import Derived.LoopNIn
import Derived.LoopIn
import Derived.Test.YtphofjinncbaaaaLimbD
namespace Go.Proofs.Ytphofjinncbaaaa
open Go.RowKit
set_option linter.unusedVariables false
end Go.Proofs.Ytphofjinncbaaaa
namespace Go.Proofs.Ytphofjinncbaaaa
open Go.RowKit Go.Shelf
set_option linter.unusedVariables false
attribute [local go_sem] Oper.semAt_some

/-- what has come when k rounds are over: the last k, backwards -/
def backs (xs : List Nat) (k : Nat) : List (Nat × Nat) := (List.range k).map fun j => (xs.length - 1 - j, nth xs (xs.length - 1 - j))
theorem backs_succ (xs : List Nat) (k : Nat) : backs xs (k + 1) = backs xs k ++ [(xs.length - 1 - k, nth xs (xs.length - 1 - k))] := by simp [backs, List.range_succ]
theorem backs_length (xs : List Nat) (k : Nat) : (backs xs k).length = k := by simp [backs]
def encB (bb : Nat) (x : Nat × Nat) : Array Value := #[.int .i64 (x.1 : Int), .int .u64 ((x.2 % bb : Nat) : Int)]

/-- what a round keeps: what lay below block n₀, and the box that the iterator reads in every round -/
def KpB (n₀ Bs : Nat) (A B : World) : Prop := Below n₀ A B ∧ ∀ v, A.cell? ⟨Bs, 0, none⟩ = some v → B.cell? ⟨Bs, 0, none⟩ = some v
end Go.Proofs.Ytphofjinncbaaaa
namespace Go.Proofs.Ytphofjinncbaaaa
open Go.RowKit Go.Shelf
set_option linter.unusedVariables false
attribute [local go_sem] Oper.semAt_some

/-- the number of the digits that have come -/
def fv (b : Nat) (pre : List (Nat × Nat)) : Nat := pre.foldl (fun a p => a * b + p.2 % b) 0
theorem fv_snoc (b : Nat) (pre : List (Nat × Nat)) (x : Nat × Nat) : fv b (pre ++ [x]) = fv b pre * b + x.2 % b := by simp [fv]
theorem fv_lt' {b : Nat} (hb : 0 < b) : ∀ (pre : List (Nat × Nat)) (a m : Nat), a < b ^ m → pre.foldl (fun a p => a * b + p.2 % b) a < b ^ (m + pre.length)
  | [], a, m, h => h
  | x :: pre, a, m, h => by
    have h1 := Nat.mod_lt x.2 hb
    have h2 : (a + 1) * b ≤ b ^ m * b := Nat.mul_le_mul_right _ h
    rw [Nat.add_mul, Nat.one_mul] at h2
    have h3 := fv_lt' hb pre (a * b + x.2 % b) (m + 1) (by show _ < b ^ m * b; omega)
    rw [List.foldl_cons, List.length_cons, show m + (pre.length + 1) = m + 1 + pre.length by omega]
    exact h3
theorem fv_lt {b : Nat} (hb : 0 < b) (pre : List (Nat × Nat)) : fv b pre < b ^ pre.length := by
  have := fv_lt' hb pre 0 0 (by simp)
  rwa [Nat.zero_add] at this
theorem fv_backs {b : Nat} {xs : List Nat} (hz : ∀ j, nth xs j < b) : ∀ k, k ≤ xs.length → fv b (backs xs k) = val b (xs.drop (xs.length - k))
  | 0, _ => by simp [backs, fv, val]
  | k + 1, hk => by
    rw [backs_succ, fv_snoc, fv_backs hz k (by omega), Nat.mod_eq_of_lt (hz _)]
    have hlt : xs.length - (k + 1) < xs.length := by omega
    rw [List.drop_eq_getElem_cons hlt, val]
    have e1 : xs.length - 1 - k = xs.length - (k + 1) := by omega
    have e2 : xs.length - (k + 1) + 1 = xs.length - k := by omega
    rw [e1, e2, nth_lt hlt, Nat.mul_comm]
    omega
theorem row_slice {wr : World} {base : Nat} {e : TypeId} {v : Value} {k : Nat} {xs : List Value} (h : wr.ownsRow base e 1 v k xs) : ∃ A c, v = .slice A k c := by
  rcases h.2 with ⟨hv, h0⟩ | ⟨g, cap, _, hv, _⟩
  · subst h0; exact ⟨none, 0, hv⟩
  · exact ⟨_, cap, hv⟩
/-- append of one word, within a fence -/
theorem wpListIn_app1 {F : Fence} {nF : Nat} {P : Program} {T t : TypeId} {k : IntKind} {B : Nat} {w : World} {A : Option Addr} {n c y : Nat} {xs : List Nat} {ops : Array Oper} {rest : List Oper} {o : Oper} {a : Act} {Q : Exit → Act → World → Prop} (hgd : o.guard = none) (s x : Operand)
    (ho : o.op = .call { callee := .builtin .append, args := #[s, x], argTypes := #[T, T] }) (he : Elem P T t k)
    (hs : a.eval s = .slice A n c) {ad : Addr} (hx : a.eval x = .slice (some ad) 1 1) (hown : Own k t B w A n c xs) (hc : w.cell? ad = some (.int k (y : Int))) (hlen : n + 1 ≤ 1099511627776) (hB : B ≤ w.heap.size)
    (h : ∀ A' c' w', Own k t B w' A' (n + 1) c' (xs ++ [y]) → w.grownBy w' (Value.slice A n c).ownBlock → wpListIn F nF P ops Q rest (a.put o.dst (.slice A' (n + 1) c')) w') : wpListIn F nF P ops Q (o :: rest) a w := by
  obtain ⟨hT, hinfo⟩ := he
  obtain ⟨i, hi, hz, hs1, hb⟩ := info_parts hinfo
  refine wpListIn_append_own w hgd s x T ho B t i (.int k 0) 1 8 hT hi hz hs1 hb rfl (by decide) _ n _ hs hown ad 1 1 [.int k (y : Int)] hx rfl ?_ (by simp [Value.oneCell']) (by simp only [maxLen]; omega) (by omega) hB ?_
  · intro j u hj
    rcases j with _ | j
    · simp at hj; subst hj
      have : ad.add 0 = ad := by unfold Addr.add; split <;> simp_all
      rw [this]; exact hc
    · simp at hj
  · intro v' w' h1 h2 _
    obtain ⟨A', c', rfl⟩ := row_slice h1
    refine h A' c' w' ?_ h2
    unfold Own
    rw [List.map_append]
    exact h1
theorem kpb_b {n₀ Bs : Nat} {w : World} (h : n₀ ≤ w.heap.size) (wr : World) (l : Nat) (o o' : Obj) (hl : w.heap.size ≤ l) (e : wr.heap[l]? = some o) (hc : o.isCells = false) (hw : o.isWalk = false) : KpB n₀ Bs wr (wr.putObj l o') :=
  ⟨belowK_b (w := w) h wr l o o' hl e hc hw, fun v hv => cell_kept hv (grownBy_putObj' wr l o') (fun r e' => by cases e'; exact ⟨_, e, hc⟩)⟩
theorem kpb_t {n₀ Bs : Nat} {X Y Z : World} (h : KpB n₀ Bs X Y) (h' : KpB n₀ Bs Y Z) : KpB n₀ Bs X Z := ⟨h.1.trans h'.1, fun v e => h'.2 v (h.2 v e)⟩
theorem top_lt {v b z k : Nat} (h : v < W ^ k) (hb : b < W) (hz : z < W) : (v * b + z) / W ^ k < W := by
  refine Nat.div_lt_of_lt_mul ?_
  have h1 : (v + 1) * W ≤ W ^ k * W := Nat.mul_le_mul_right _ h
  have h2 : v * b ≤ v * W := Nat.mul_le_mul_left _ (Nat.le_of_lt hb)
  rw [Nat.add_mul, Nat.one_mul] at h1
  omega
theorem top_val (k x : Nat) : val W (wds W k x ++ [x / W ^ k]) = x := by
  rw [val_append, val_wds, wds_length]
  simp only [val, Nat.mul_zero, Nat.add_zero]
  exact Nat.mod_add_div _ _
theorem cell_setOther {X : World} {B B' : Nat} {u v : Value} (h : X.cell? ⟨B, 0, none⟩ = some v) (hne : B ≠ B') : (X.setCell ⟨B', 0, none⟩ u).cell? ⟨B, 0, none⟩ = some v := by
  simp only [World.cell?] at *
  rw [Below.heap_setCell _ _ _ _ hne]
  exact h
theorem cell_lt' {X : World} {B : Nat} {v : Value} (h : X.cell? ⟨B, 0, none⟩ = some v) : B < X.heap.size := by
  by_cases hlt : B < X.heap.size
  · exact hlt
  · simp only [World.cell?] at h
    rw [Array.getElem?_eq_none (by omega)] at h
    simp at h
end Go.Proofs.Ytphofjinncbaaaa
