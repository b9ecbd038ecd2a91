/-
  Walks: div.correct, guess. copy onto an own slice; walks: slices.Grow of nil, slices.Concat.
-/
import Derived.Test.YtfpogghlcodncaaDoorKnu3
import Derived.Test.YtfpogghlcodncaaDoorDivOne
import Derived.Test.YtfpogghlcodncaaDoorPack
import Derived.Lib.AppendZeros
import Derived.Laws.CopyOwn
namespace Go.Proofs.YtfpogghlcodncaaDoor
open Go.RowKit
set_option linter.unusedVariables false

theorem run_add' (x y : Nat) : ∀ (w : World), (callFunc 34 #[.int .u64 (x : Int), .int .u64 (y : Int), .int .u64 0]).run Tryd.prog w =
    .ok (.value (.tuple #[.int .u64 ((lo (x + y) : Nat) : Int), .int .u64 ((hi (x + y) : Nat) : Int)])) w := fun w => run_add x y w
/-- does the second digit say that it isn't too great? -/
def corB (q v0 rest u0 : Nat) : Bool := decide (q * v0 ≤ rest * W + u0)

end Go.Proofs.YtfpogghlcodncaaDoor
namespace Go.Proofs.YtfpogghlcodncaaDoor
open Go.RowKit
set_option linter.unusedVariables false

section
variable {k : IntKind} {t dT sT : TypeId} {B n c m c2 : Nat} {w : World} {A A2 : Option Addr} {xs ys : List Nat} {P : Program}
theorem spl_map (f : Nat → Value) (xs ys : List Nat) (j : Nat) : (spl xs j ys).map f = (xs.map f).take j ++ ys.map f ++ (xs.map f).drop (j + ys.length) := by
  simp [spl, List.map_append, List.map_take, List.map_drop]
theorem take_splice {cur cs : List Value} {off m : Nat} (h : off + cs.length ≤ m) (hm : m ≤ cur.length) : (splice cur off cs).take m = (cur.take m).take off ++ cs ++ (cur.take m).drop (off + cs.length) := by
  rw [splice, ← List.append_assoc]
  have hl : (cur.take off ++ cs).length = off + cs.length := by rw [List.length_append, List.length_take]; omega
  rw [List.take_append, List.take_of_length_le (by omega), hl, List.take_take, Nat.min_eq_left (by omega), List.drop_take]
/-- copy onto an own slice, from place off on -/
theorem wpList_cp {ops : Array Oper} {rest : List Oper} {o : Oper} {a : Act} {Q : Exit → Act → World → Prop} {g off dLen dCap : Nat} (hgd : o.guard = none) (d s : Operand)
    (ho : o.op = .call { callee := .builtin .copy, args := #[d, s], argTypes := #[dT, sT] }) (he : Elem P dT t k)
    (hd : a.eval d = .slice (some ⟨g, off, none⟩) dLen dCap) (hs : a.eval s = .slice A2 m c2) (hown : Own k t B w (some ⟨g, 0, none⟩) n c xs) (hr : Rd k w A2 m c2 ys) (hm : m ≤ dLen) (hfit : off + m ≤ n)
    (h : ∀ w', Own k t B w' (some ⟨g, 0, none⟩) n c (spl xs off ys) → Grow (some g) w w' → wpList P ops Q rest (a.put o.dst (goInt m)) w') : wpList P ops Q (o :: rest) a w := by
  obtain ⟨hT, hinfo⟩ := he
  have hsz : (P.info? t).map (·.size) = some 1 := by
    cases hi : P.info? t with
    | none => rw [hi] at hinfo; cases hinfo
    | some i => rw [hi] at hinfo; simp at hinfo ⊢; exact hinfo.2.1
  have hxl := hown.len
  have hyl := hr.len
  by_cases h0 : m = 0
  · subst h0
    have hy0 : ys = [] := List.eq_nil_of_length_eq_zero hyl
    refine wpList_copy_nothing hgd d s dT sT ho t hT hsz (some ⟨g, off, none⟩) A2 dLen dCap 0 c2 hd hs (Nat.zero_min _) ?_
    refine h w ?_ (Grow.refl _ _)
    rw [hy0, spl]
    simpa using hown
  rcases hown.2 with ⟨h2, h3⟩ | ⟨g', cap, cur, hv, hBg, hh, hnc, hcm, hcs, htk⟩
  · cases h2
  · injection hv with e1 _ e2
    injection e1 with e1
    injection e1 with e1
    subst e1 e2
    rw [Nat.mul_one] at hcs htk
    have hcl : cur.toList.length = c := by simpa using hcs
    obtain ⟨b, o2, e, _, hc⟩ := hr.2 (by omega)
    subst e
    have hlen : (ys.map (iv k)).length = m := by simp [hyl]
    have hsrc : ∀ j v, (ys.map (iv k))[j]? = some v → w.cell? ((⟨b, o2, none⟩ : Addr).add j) = some v := by
      intro j v hj
      rw [List.getElem?_map] at hj
      obtain ⟨x, hx, rfl⟩ := Option.map_eq_some_iff.1 hj
      have hlt : j < ys.length := (List.getElem?_eq_some_iff.1 hx).1
      rw [addo, hc j (by omega), nth, hx]
      rfl
    refine wpList_copy_own hgd d s dT sT ho t hT hsz g off dLen dCap ⟨b, o2, none⟩ m c2 hd hs cur t hh (ys.map (iv k)) (by rw [hlen]; exact (Nat.min_eq_left hm).symm) hsrc (by rw [hlen]; omega) (iv_one k ys) ?_
    rw [hlen]
    refine h _ ⟨by simp [spl_len (xs := xs) (ys := ys) (j := off) (by omega), hxl], .inr ⟨g, c, (splice cur.toList off (ys.map (iv k))).toArray, rfl, hBg, ?_, hnc, hcm, ?_, ?_⟩⟩ ⟨rfl, rfl, rfl, by simp [World.setRow], fun k hk hne => setRow_other w g k _ (by rintro rfl; exact hne rfl)⟩
    · rw [setRow_heap w g _ _ t _ hh, splice, hlen]
    · simp [splice, hcl]
      omega
    · rw [List.toList_toArray, Nat.mul_one, take_splice (by omega) (by omega), htk, spl_map]
      simp
/-- an own slice in another block than the one that has turned -/
theorem Own.grow {g g' : Nat} {w' : World} (h : Own k t B w (some ⟨g, 0, none⟩) n c xs) (hg : Grow (some g') w w') (hne : g ≠ g') : Own k t B w' (some ⟨g, 0, none⟩) n c xs :=
  World.ownsRow.kept h hg (.inr (by simp [Value.ownBlock]; exact hne))
theorem Grow.below_of {g : Nat} {w' : World} (h : Grow (some g) w w') (hB : B ≤ g) (hs : B ≤ w.heap.size) : Below B w w' :=
  (Below.refl _ _).grown h hs (fun k hk => by injection hk with hk; omega)
end

/-- slices.Grow of nil -/
def GGrow (w : World) (n : Nat) (e : Ending) (w' : World) : Prop := ∃ A c, e = .returned (.slice A 0 c) ∧ Own .u64 22 w.heap.size w' A 0 c [] ∧ Below w.heap.size w w'
theorem below_drew_alloc (w : World) (o : Obj) : Below w.heap.size w (w.drew.alloc o) := ((Below.refl _ _).drew).alloc (Nat.le_refl _) o
/-- a slice of slices that read as numbers -/
def RdS (w : World) (A : Option Addr) (n c : Nat) (F : Nat → List Nat) : Prop :=
  n ≤ c ∧ (0 < n → ∃ b off, A = some ⟨b, off, none⟩ ∧ b < w.heap.size ∧ ∀ i, i < n → ∃ A' n' c', w.cell? ⟨b, off + i, none⟩ = some (.slice A' n' c') ∧ Rd .u64 w A' n' c' (F i))
theorem RdS.below {w w' : World} {A : Option Addr} {n c : Nat} {F : Nat → List Nat} (h : RdS w A n c F) (hb : Below w.heap.size w w') : RdS w' A n c F :=
  ⟨h.1, fun hn => by
    obtain ⟨b, off, e, hlt, hc⟩ := h.2 hn
    refine ⟨b, off, e, Nat.lt_of_lt_of_le hlt hb.size, fun i hi => ?_⟩
    obtain ⟨A', n', c', h1, h2⟩ := hc i hi
    exact ⟨A', n', c', (hb.cell (p := ⟨b, off + i, none⟩) hlt).trans h1, h2.below hb⟩⟩
theorem RdS.at {w : World} {A : Option Addr} {n c i : Nat} {F : Nat → List Nat} (h : RdS w A n c F) (hi : i < n) : ∃ b off A' n' c', A = some ⟨b, off, none⟩ ∧ b < w.heap.size ∧ w.cell? ⟨b, off + i, none⟩ = some (.slice A' n' c') ∧ Rd .u64 w A' n' c' (F i) := by
  obtain ⟨b, off, e, hlt, hc⟩ := h.2 (by omega)
  obtain ⟨A', n', c', h1, h2⟩ := hc i hi
  exact ⟨b, off, A', n', c', e, hlt, h1, h2⟩
def flat (F : Nat → List Nat) : Nat → List Nat
  | 0 => []
  | k + 1 => flat F k ++ F k
theorem flat_le (F : Nat → List Nat) {i n : Nat} (h : i ≤ n) : (flat F i).length ≤ (flat F n).length := by
  induction n with
  | zero => obtain rfl : i = 0 := by omega
            exact Nat.le_refl _
  | succ n ih =>
    by_cases hi : i ≤ n
    · have := ih hi
      simp only [flat, List.length_append]
      omega
    · obtain rfl : i = n + 1 := by omega
      exact Nat.le_refl _
end Go.Proofs.YtfpogghlcodncaaDoor
