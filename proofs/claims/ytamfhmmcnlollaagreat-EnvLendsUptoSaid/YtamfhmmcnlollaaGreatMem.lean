/-
  Words for memory: slices of integers that read as lists of natural numbers. No program here.
-/
import Derived.WalkKit
import Derived.WalkSpells
import Derived.WalkLawsBesides
import Derived.Lib.Hide
import Derived.Maps.AppendAt
import Derived.Deep.AppendLies
import Derived.Deep.Draws
import Derived.Laws.Rows
import Derived.Deep.QuietTactic
import Derived.BigQuiet
import Derived.StillTailTactics
namespace Go.Proofs.YtamfhmmcnlollaaGreat
open Go.RowKit
set_option linter.unusedVariables false

/-- the i-th number, 0 above -/
def nth (xs : List Nat) (i : Nat) : Nat := xs[i]?.getD 0
theorem nth_lt {xs : List Nat} {i : Nat} (h : i < xs.length) : nth xs i = xs[i] := by simp [nth, h]
theorem nth_ge {xs : List Nat} {i : Nat} (h : xs.length ≤ i) : nth xs i = 0 := by simp [nth, h]

/-- an integer's value -/
abbrev iv (k : IntKind) (x : Nat) : Value := .int k (x : Int)

/-- the slice A, n reads as the numbers xs -/
def Rd (k : IntKind) (w : World) (A : Option Addr) (n c : Nat) (xs : List Nat) : Prop :=
  (xs.length = n ∧ n ≤ c) ∧ (0 < n → ∃ b off, A = some ⟨b, off, none⟩ ∧ b < w.heap.size ∧ ∀ i, i < n → w.cell? ⟨b, off + i, none⟩ = some (.int k ((nth xs i : Nat) : Int)))

/-- the slice is nil or new since block B, reads as xs, may be written -/
def Own (k : IntKind) (t : TypeId) (B : Nat) (w : World) (A : Option Addr) (n c : Nat) (xs : List Nat) : Prop :=
  w.ownsRow B t 1 (.slice A n c) n (xs.map (iv k))

section
variable {k : IntKind} {t : TypeId} {B n c : Nat} {w w' : World} {A : Option Addr} {xs : List Nat}

theorem Rd.len (h : Rd k w A n c xs) : xs.length = n := h.1.1
theorem Rd.cap (h : Rd k w A n c xs) : n ≤ c := h.1.2
theorem Rd.at {i : Nat} (h : Rd k w A n c xs) (hi : i < n) : ∃ b off, A = some ⟨b, off, none⟩ ∧ b < w.heap.size ∧ w.cell? ⟨b, off + i, none⟩ = some (.int k ((nth xs i : Nat) : Int)) := by
  obtain ⟨b, off, e, hb, hc⟩ := h.2 (by omega)
  exact ⟨b, off, e, hb, hc i hi⟩
theorem Rd.lt {i b off : Nat} (h : Rd k w (some ⟨b, off, none⟩) n c xs) (hi : i < n) : b < w.heap.size := by
  obtain ⟨b', off', e, hb, _⟩ := h.at hi
  injection e with e; injection e with e1 e2; subst e1; exact hb
theorem Rd.below (h : Rd k w A n c xs) (hb : Below w.heap.size w w') : Rd k w' A n c xs :=
  ⟨h.1, fun hn => by
    obtain ⟨b, off, e, hlt, hc⟩ := h.2 hn
    exact ⟨b, off, e, Nat.lt_of_lt_of_le hlt hb.size, fun i hi => (hb.cell (p := ⟨b, off + i, none⟩) hlt).trans (hc i hi)⟩⟩
theorem Rd.nil : Rd k w A 0 c [] := ⟨⟨rfl, Nat.zero_le _⟩, fun h => absurd h (by omega)⟩
theorem Rd.drew (h : Rd k w A n c xs) : Rd k w.drew A n c xs := h
theorem Rd.drewN (h : Rd k w A n c xs) (m : Nat) : Rd k (w.drewN m) A n c xs := h
/-- a[:k] -/
theorem Rd.upto {j : Nat} (h : Rd k w A n c xs) (hj : j ≤ n) : Rd k w A j c (xs.take j) := by
  refine ⟨⟨by rw [List.length_take, h.len]; omega, by have := h.cap; omega⟩, fun hn => ?_⟩
  obtain ⟨b, off, e, hlt, hc⟩ := h.2 (by omega)
  refine ⟨b, off, e, hlt, fun i hi => ?_⟩
  rw [hc i (by omega), nth, nth, List.getElem?_take, if_pos hi]
/-- a[k:] -/
theorem Rd.from_ {j : Nat} (h : Rd k w A n c xs) (hj : j ≤ n) : Rd k w (if c = j then A else A.map (·.add j)) (n - j) (c - j) (xs.drop j) := by
  refine ⟨⟨by rw [List.length_drop, h.len], by have := h.cap; omega⟩, fun hn => ?_⟩
  obtain ⟨b, off, e, hlt, hc⟩ := h.2 (by omega)
  subst e
  have := h.cap
  rw [if_neg (by omega)]
  have ea : (⟨b, off, none⟩ : Addr).add j = ⟨b, off + j, none⟩ := by unfold Addr.add; split <;> simp_all
  refine ⟨b, off + j, by simp [ea], hlt, fun i hi => ?_⟩
  rw [Nat.add_assoc, hc (j + i) (by omega), nth, nth, List.getElem?_drop]
theorem Rd.alloc (h : Rd k w A n c xs) (o : Obj) : Rd k (w.alloc o) A n c xs := h.below ((Below.refl _ _).alloc (Nat.le_refl _) o)
theorem Own.len (h : Own k t B w A n c xs) : xs.length = n := by have := h.1; simpa using this
theorem Own.cap (h : Own k t B w A n c xs) : n ≤ c ∧ c ≤ maxLen := by
  rcases h.2 with ⟨h2, h3⟩ | ⟨g, cap, cur, hv, hg, hh, hnc, hcm, r⟩
  · injection h2 with _ e1 e2; subst e1; subst e2; exact ⟨Nat.le_refl _, Nat.zero_le _⟩
  · injection hv with _ _ e; subst e; exact ⟨hnc, hcm⟩
theorem Own.rd (h : Own k t B w A n c xs) : Rd k w A n c xs := by
  refine ⟨⟨h.len, h.cap.1⟩, fun hn => ?_⟩
  obtain ⟨g, cap, hv, _, hlt⟩ := World.ownsRow.form h hn
  injection hv with hA _ hc
  subst hA; subst hc
  refine ⟨g, 0, rfl, hlt, fun i hi => ?_⟩
  rw [Nat.zero_add, World.ownsRow.cellAt h i (by omega), List.getElem?_map, List.getElem?_eq_getElem (by rw [h.len]; exact hi), nth_lt (by rw [h.len]; exact hi)]
  rfl
theorem Own.mono {B' : Nat} (h : Own k t B w A n c xs) (hB : B' ≤ B) : Own k t B' w A n c xs := by
  refine ⟨h.1, ?_⟩
  rcases h.2 with h2 | ⟨g, cap, cur, hv, hg, r⟩
  · exact .inl h2
  · exact .inr ⟨g, cap, cur, hv, by omega, r⟩
theorem Own.drew (h : Own k t B w A n c xs) : Own k t B w.drew A n c xs := h
theorem Own.drewN (h : Own k t B w A n c xs) (m : Nat) : Own k t B (w.drewN m) A n c xs := h
theorem Own.nil : Own k t B w none 0 0 [] := World.ownsRow_nil _ _ _ _
theorem Own.below (h : Own k t B w A n c xs) (hb : Below w.heap.size w w') : Own k t B w' A n c xs := by
  refine ⟨h.1, ?_⟩
  rcases h.2 with h2 | ⟨g, cap, cur, hv, hg, hh, r⟩
  · exact .inl h2
  · refine .inr ⟨g, cap, cur, hv, hg, ?_, r⟩
    rw [hb.block g (Array.getElem?_eq_some_iff.1 hh).1]; exact hh
end

/-- what a call gives that answers one new slice -/
def Gives (k : IntKind) (t : TypeId) (w : World) (zs : List Nat) (e : Ending) (w' : World) : Prop :=
  ∃ A n c, e = .returned (.slice A n c) ∧ Own k t w.heap.size w' A n c zs ∧ Below w.heap.size w w'
/-- a new slice and a value beside it -/
def Gives2 (k : IntKind) (t : TypeId) (w : World) (zs : List Nat) (v : Value) (e : Ending) (w' : World) : Prop :=
  ∃ A n c, e = .returned (.tuple #[.slice A n c, v]) ∧ Own k t w.heap.size w' A n c zs ∧ Below w.heap.size w w'

theorem ret_int {k : IntKind} {a b : Int} (h : a = b) : Ending.returned (.int k a) = .returned (.int k b) := by rw [h]

/-- the type's row in the table: one cell of eight bytes, an integer of kind k -/
def Elem (P : Program) (T t : TypeId) (k : IntKind) : Prop :=
  P.underlying T = some (.slice t) ∧ (P.info? t).map (fun i => (i.zero, i.size, i.bytes)) = some (some (.int k 0), 1, 8)

theorem addo (g o j : Nat) : (⟨g, o, none⟩ : Addr).add j = ⟨g, o + j, none⟩ := by unfold Addr.add; split <;> simp_all

section
variable {k : IntKind} {t T : TypeId} {B n c m c2 : Nat} {w w' : World} {A A2 : Option Addr} {xs ys : List Nat} {P : Program}

theorem iv_one (k : IntKind) (ys : List Nat) : ∀ u ∈ ys.map (iv k), u.oneCell' = true := by
  intro u hu
  obtain ⟨x, _, rfl⟩ := List.mem_map.1 hu
  rfl

theorem Own.form (h : Own k t B w A n c xs) (hn : 0 < n) : ∃ g, A = some ⟨g, 0, none⟩ ∧ B ≤ g ∧ g < w.heap.size := by
  obtain ⟨g, cap, hv, hb, hlt⟩ := World.ownsRow.form h hn
  injection hv with hA _ _
  exact ⟨g, hA, hb, hlt⟩
/-- append of a slice that reads as ys onto one of the call's own -/
theorem run_app (ty : TypeId) (he : Elem P T t k) (hown : Own k t B w A n c xs) (hr : Rd k w A2 m c2 ys) (hlen : n + m ≤ 1099511627776) (hB : B ≤ w.heap.size) :
    ∃ A' c' w', (Builtin.append_ #[T, T] ty #[.slice A n c, .slice A2 m c2]).run P w = .ok (.slice A' (n + m) c') w' ∧ Own k t B w' A' (n + m) c' (xs ++ ys) ∧ Below B w w' ∧ w.grownBy w' (Value.slice A n c).ownBlock ∧
      ((Value.slice A' (n + m) c').ownBlock = (Value.slice A n c).ownBlock ∨ (Value.slice A' (n + m) c').ownBlock = some w.heap.size) := by
  obtain ⟨hT, hinfo⟩ := he
  obtain ⟨i, hi, hz, hs, hb⟩ := info_parts hinfo
  have fin : ∀ w', w.grownBy w' (Value.slice A n c).ownBlock → Below B w w' := fun w' hg => (Below.refl _ _).grown hg hB (fun g hg' => (World.ownsRow.lt hown g hg').1)
  rcases A2 with _ | ad
  · have hm : m = 0 := by
      rcases Nat.eq_zero_or_pos m with h0 | h0
      · exact h0
      · obtain ⟨b, off, h, _⟩ := hr.2 h0
        cases h
    subst hm
    have hn : ys = [] := List.eq_nil_of_length_eq_zero hr.len
    subst hn
    refine ⟨A, c, w, ?_, by simpa using hown, Below.refl _ _, ⟨rfl, rfl, rfl, Nat.le_refl _, fun _ _ _ => rfl⟩, .inl rfl⟩
    have h2 := hown.2
    rcases h2 with ⟨h2, h3⟩ | ⟨g, cap, cur, hv, _, _, hnc, _⟩
    · injection h2 with e1 e2 e3; subst e1; subst e2; subst e3
      simp [Builtin.append_, run_underlying hT, sizeOf, typeInfo, hi, Builtin.lenOf, Builtin.firstCells]
    · injection hv with e1 e2 e3; subst e1; subst e3
      simp [Builtin.append_, run_underlying hT, sizeOf, typeInfo, hi, Builtin.lenOf, Builtin.firstCells, hnc, storeCells]
  · have hcells : ∀ j u, (ys.map (iv k))[j]? = some u → w.cell? (ad.add j) = some u := by
      intro j u hu
      rw [List.getElem?_map] at hu
      obtain ⟨x, hx, rfl⟩ := Option.map_eq_some_iff.1 hu
      have hj : j < ys.length := (List.getElem?_eq_some_iff.1 hx).1
      rw [hr.len] at hj
      obtain ⟨b, off, h, _, hc⟩ := hr.at hj
      injection h with h
      subst h
      rw [addo, hc, nth, hx]
      rfl
    obtain ⟨v', w', hrun, h2, h3, _, h5⟩ := run_append_own_at (P := P) w B T ty t i (.int k 0) 1 8 hT hi hz hs hb rfl (by omega) (.slice A n c) n (xs.map (iv k)) hown ad m c2 (ys.map (iv k)) (by simp [hr.len]) hcells (iv_one k ys) (by simp only [maxLen]; omega) (by omega) hB
    have hform : ∃ A' c', v' = .slice A' (n + m) c' := by
      rcases h2.2 with ⟨h2, h3⟩ | ⟨g, cap, cur, hv, _⟩
      · exact ⟨none, 0, by rw [h2]; congr 1; omega⟩
      · exact ⟨_, _, hv⟩
    obtain ⟨A', c', rfl⟩ := hform
    exact ⟨A', c', w', hrun, by unfold Own; rw [List.map_append]; exact h2, fin w' h3, h3, h5⟩

theorem wp_app {o : Oper} {a : Act} {K : Act → World → Prop} {Q : Exit → Act → World → Prop} (s x : Operand)
    (ho : o.op = .call { callee := .builtin .append, args := #[s, x], argTypes := #[T, T] }) (he : Elem P T t k)
    (hs : a.eval s = .slice A n c) (hx : a.eval x = .slice A2 m c2) (hown : Own k t B w A n c xs) (hr : Rd k w A2 m c2 ys) (hlen : n + m ≤ 1099511627776) (hB : B ≤ w.heap.size)
    (h : ∀ A' c' w', Own k t B w' A' (n + m) c' (xs ++ ys) → Below B w w' → w.grownBy w' (Value.slice A n c).ownBlock →
      ((Value.slice A' (n + m) c').ownBlock = (Value.slice A n c).ownBlock ∨ (Value.slice A' (n + m) c').ownBlock = some w.heap.size) → K (a.put o.dst (.slice A' (n + m) c')) w') : o.wp P a w K Q := by
  obtain ⟨A', c', w', hrun, h2, h3, h4, h5⟩ := run_app (P := P) (c2 := c2) o.type he hown hr hlen hB
  unfold Oper.wp execOp
  simp only [ho, resolve, invoke, builtin, Sem.run_bind, Sem.run_pure, Result.andThen_ok, List.map_toArray, List.map_cons, List.map_nil, hs, hx, hrun]
  exact h A' c' w' h2 h3 h4 h5

theorem wpList_app {ops : Array Oper} {rest : List Oper} {o : Oper} {a : Act} {Q : Exit → Act → World → Prop} (hgd : o.guard = none) (s x : Operand)
    (ho : o.op = .call { callee := .builtin .append, args := #[s, x], argTypes := #[T, T] }) (he : Elem P T t k)
    (hs : a.eval s = .slice A n c) (hx : a.eval x = .slice A2 m c2) (hown : Own k t B w A n c xs) (hr : Rd k w A2 m c2 ys) (hlen : n + m ≤ 1099511627776) (hB : B ≤ w.heap.size)
    (h : ∀ A' c' w', Own k t B w' A' (n + m) c' (xs ++ ys) → Below B w w' → w.grownBy w' (Value.slice A n c).ownBlock →
      ((Value.slice A' (n + m) c').ownBlock = (Value.slice A n c).ownBlock ∨ (Value.slice A' (n + m) c').ownBlock = some w.heap.size) → wpList P ops Q rest (a.put o.dst (.slice A' (n + m) c')) w') : wpList P ops Q (o :: rest) a w :=
  wpList_plain hgd fun _ hK => wp_app s x ho he hs hx hown hr hlen hB fun A' c' w' h2 h3 h4 h5 => hK _ _ (h A' c' w' h2 h3 h4 h5)

/-- a slice literal of words: a new block -/
theorem Own.lit (w : World) (zs : List Nat) (hz : zs.length ≤ maxLen) (hB : B ≤ w.heap.size) : Own k t B (w.alloc (.cells (zs.map (iv k)).toArray t)) (some ⟨w.heap.size, 0, none⟩) zs.length zs.length zs := by
  have := World.ownsRow_lit (base := B) (e := t) (size := 1) w (zs.map (iv k)).toArray zs.length hB hz (by simp)
  simpa [Own] using this

theorem Rd.lit1 (w : World) (x : Nat) : Rd k (w.alloc (.cells #[.int k (x : Int)] t)) (some ⟨w.heap.size, 0, none⟩) 1 1 [x] :=
  (Own.lit (k := k) (t := t) (B := 0) w [x] (by simp [maxLen]) (Nat.zero_le _)).rd
theorem Own.stored {g i x : Nat} (h : Own k t B w (some ⟨g, 0, none⟩) n c xs) : Own k t B (w.setCell ⟨g, i, none⟩ (.int k (x : Int))) (some ⟨g, 0, none⟩) n c (xs.set i x) := by
  have := (World.ownsRow.stored (j := i) (u := .int k (x : Int)) h).1
  unfold Own
  rw [List.map_set]
  exact this
theorem Own.cell {g i : Nat} (h : Own k t B w (some ⟨g, 0, none⟩) n c xs) (hi : i < n) : w.cell? ⟨g, i, none⟩ = some (.int k ((nth xs i : Nat) : Int)) := by
  obtain ⟨b, off, e, _, hc⟩ := h.rd.2 (by omega)
  injection e with e
  injection e with e1 e2
  subst e1; subst e2
  have := hc i hi
  rwa [Nat.zero_add] at this
theorem Own.frozen {g i : Nat} (h : Own k t B w (some ⟨g, 0, none⟩) n c xs) : w.frozen? ⟨g, i, none⟩ = false := World.ownsRow.frozenAt h i
theorem wpList_mk {ops : Array Oper} {rest : List Oper} {o : Oper} {a : Act} {Q : Exit → Act → World → Prop} (hg : o.guard = none) (l c : Operand) (hop : o.op = Op.makeSlice T l c) (he : Elem P T t k)
    (B : Nat) (n : Nat) {kl kc : IntKind} {L C : Int} (hl : a.eval l = .int kl L) (hc : a.eval c = .int kc C) (hL : L = (n : Int)) (hC : C = (n : Int)) (hn : n ≤ 1099511627776) (hB : B ≤ w.heap.size)
    (hK : ∀ w', Own k t B w' (some ⟨w.heap.size, 0, none⟩) n n (List.replicate n 0) → w.grownBy w' none → Below w.heap.size w w' → wpList P ops Q rest (a.put o.dst (.slice (some ⟨w.heap.size, 0, none⟩) n n)) w') :
    wpList P ops Q (o :: rest) a w := by
  obtain ⟨hT, hinfo⟩ := id he
  obtain ⟨i, hi, hz, hs, hb⟩ := info_parts hinfo
  refine wpList_make_full w hg l c T hop B t i (.int k 0) 1 hT hi hz hs kl kc L C n hl hc hL hC (by rw [hb]; omega) (by simp only [maxLen]; omega) hB fun w' ho hgr => ?_
  refine hK w' ?_ hgr ((Below.refl _ _).grown hgr (Nat.le_refl _) (fun k hk => by cases hk))
  unfold Own
  have e : (madeCells (Value.int k 0).cells (n * 1)).toList = (List.replicate n 0).map (iv k) := by
    rw [Nat.mul_one]
    have := toList_madeCells_one (Value.int k 0) n
    simp only [List.map_replicate]
    exact this
  rw [← e]
  exact ho
end
end Go.Proofs.YtamfhmmcnlollaaGreat
