/-
  Memory that is written over: what lies elsewhere stays. Rows of ints of the call's own.
-/
import Derived.Test.YtajoafcondgelaaGreatDoorRadRM
namespace Go.Proofs.YtajoafcondgelaaGreatDoor
open Go.RowKit
set_option linter.unusedVariables false

/-- outside the blocks of S nothing that was there has turned -/
structure Ex (S : Nat → Prop) (w w' : World) : Prop where
  os : w'.os = w.os
  tape : w'.tape = w.tape
  output : w'.output = w.output
  size : w.heap.size ≤ w'.heap.size
  block : ∀ k, k < w.heap.size → ¬ S k → w'.heap[k]? = w.heap[k]?
theorem Ex.refl (S : Nat → Prop) (w : World) : Ex S w w := ⟨rfl, rfl, rfl, Nat.le_refl _, fun _ _ _ => rfl⟩
theorem Ex.trans {S : Nat → Prop} {a b c : World} (h : Ex S a b) (k : Ex S b c) : Ex S a c :=
  ⟨k.os.trans h.os, k.tape.trans h.tape, k.output.trans h.output, Nat.le_trans h.size k.size, fun i hi hs => (k.block i (Nat.lt_of_lt_of_le hi h.size) hs).trans (h.block i hi hs)⟩
theorem Ex.mono {S S' : Nat → Prop} {a b : World} (h : Ex S a b) (hs : ∀ k, S k → S' k) : Ex S' a b := ⟨h.os, h.tape, h.output, h.size, fun k hk hn => h.block k hk (fun e => hn (hs k e))⟩
theorem Ex.below {S : Nat → Prop} {B : Nat} {w w' : World} (h : Ex S w w') (hS : ∀ k, S k → B ≤ k) (hB : B ≤ w.heap.size) : Below B w w' :=
  ⟨h.os, h.tape, h.output, h.size, fun k hk => h.block k (by omega) (fun e => by have := hS k e; omega)⟩
theorem Ex.of_below {S : Nat → Prop} {w w' : World} (h : Below w.heap.size w w') : Ex S w w' := ⟨h.os, h.tape, h.output, h.size, fun k hk _ => h.block k hk⟩
theorem Ex.grown {S : Nat → Prop} {w w' : World} {row : Option Nat} (h : w.grownBy w' row) (hr : ∀ k, row = some k → S k) : Ex S w w' :=
  ⟨h.os, h.tape, h.output, h.size, fun k hk hn => h.block k hk (fun e => hn (hr k e.symm))⟩
theorem Ex.setCell {S : Nat → Prop} (w : World) (g j : Nat) (u : Value) (hs : S g) : Ex S w (w.setCell ⟨g, j, none⟩ u) :=
  ⟨rfl, rfl, rfl, by simp [World.setCell], fun k hk hn => Below.heap_setCell _ _ _ _ (fun e => hn (by rw [e]; exact hs))⟩
theorem Ex.alloc {S : Nat → Prop} (w : World) (o : Obj) : Ex S w (w.alloc o) := Ex.of_below ((Below.refl _ _).alloc (Nat.le_refl _) o)
/-- where a slice lies: none, or a block from B up to U -/
def Lies (A : Option Addr) (B U : Nat) : Prop := ∀ a, A = some a → B ≤ a.block ∧ a.block < U
theorem Lies.mono {A : Option Addr} {B U B' U' : Nat} (h : Lies A B U) (h1 : B' ≤ B) (h2 : U ≤ U') : Lies A B' U' := fun a e => by have := h a e; omega
theorem Own.lies {k : IntKind} {t : TypeId} {B n c : Nat} {w : World} {A : Option Addr} {xs : List Nat} (h : Own k t B w A n c xs) : Lies A B w.heap.size := by
  intro a e
  subst e
  rcases h.2 with ⟨h2, _⟩ | ⟨g, cap, cur, hv, hg, hh, _⟩
  · cases h2
  · injection hv with e1 _ _
    injection e1 with e1
    subst e1
    exact ⟨hg, (Array.getElem?_eq_some_iff.1 hh).1⟩
theorem Own.ex {k : IntKind} {t : TypeId} {B n c : Nat} {w w' : World} {A : Option Addr} {xs : List Nat} {S : Nat → Prop} (h : Own k t B w A n c xs) (hx : Ex S w w') (hs : ∀ a, A = some a → ¬ S a.block) : Own k t B w' A n c xs := by
  refine ⟨h.1, ?_⟩
  rcases h.2 with h2 | ⟨g, cap, cur, hv, hg, hh, r⟩
  · exact .inl h2
  · refine .inr ⟨g, cap, cur, hv, hg, ?_, r⟩
    have e1 : A = some ⟨g, 0, none⟩ := by injection hv
    rw [hx.block g (Array.getElem?_eq_some_iff.1 hh).1 (hs _ e1)]; exact hh
theorem Rd.ex {k : IntKind} {n c : Nat} {w w' : World} {A : Option Addr} {xs : List Nat} {S : Nat → Prop} (h : Rd k w A n c xs) (hx : Ex S w w') (hs : ∀ a, A = some a → ¬ S a.block) : Rd k w' A n c xs := by
  refine ⟨h.1, fun hn => ?_⟩
  obtain ⟨b, off, e, hb, hc⟩ := h.2 hn
  exact ⟨b, off, e, Nat.lt_of_lt_of_le hb hx.size, fun i hi => by rw [← hc i hi]; exact World.cell?_of_block (w := w) (hx.block b hb (hs _ e))⟩
theorem Rdz.ex {n c : Nat} {w w' : World} {A : Option Addr} {zs : List Int} {S : Nat → Prop} (h : Rdz w A n c zs) (hx : Ex S w w') (hs : ∀ a, A = some a → ¬ S a.block) : Rdz w' A n c zs := by
  refine ⟨h.1, fun hn => ?_⟩
  obtain ⟨b, off, e, hb, hc⟩ := h.2 hn
  exact ⟨b, off, e, Nat.lt_of_lt_of_le hb hx.size, fun i hi => by rw [← hc i hi]; exact World.cell?_of_block (w := w) (hx.block b hb (hs _ e))⟩

/-- ints of the call's own -/
def Ownz (t : TypeId) (B : Nat) (w : World) (A : Option Addr) (n c : Nat) (zs : List Int) : Prop := w.ownsRow B t 1 (.slice A n c) n (zs.map (Value.int .i64))
section
variable {t T : TypeId} {B n c m c2 : Nat} {w w' : World} {A A2 : Option Addr} {xs ys : List Int} {P : Program}
theorem Own.z {xs : List Nat} (h : Own .i64 t B w A n c xs) : Ownz t B w A n c (xs.map fun (x : Nat) => (x : Int)) := by
  unfold Ownz; rw [List.map_map]; exact h
theorem Ownz.len (h : Ownz t B w A n c xs) : xs.length = n := by have := h.1; simpa using this
theorem Ownz.rdz (h : Ownz t B w A n c xs) : Rdz w A n c xs := by
  have hl := h.len
  rcases h.2 with ⟨hv, hn⟩ | ⟨g, cap, cur, hv, hg, hh, hnc, hcm, hcs, ht⟩
  · injection hv with e1 e2 e3
    subst e3
    exact ⟨⟨hl, by omega⟩, fun h0 => absurd h0 (by omega)⟩
  · injection hv with e1 e2 e3
    subst e1; subst e3
    refine ⟨⟨hl, hnc⟩, fun h0 => ⟨g, 0, rfl, (Array.getElem?_eq_some_iff.1 hh).1, fun i hi => ?_⟩⟩
    rw [Nat.zero_add, cell_of_row w g i cur t (0, 0) hh]
    have e : cur.toList[i]? = (cur.toList.take (n * 1))[i]? := by rw [List.getElem?_take, if_pos (by omega)]
    rw [← Array.getElem?_toList, e, ht, List.getElem?_map, List.getElem?_eq_getElem (by omega), zth, List.getD_eq_getElem?_getD, List.getElem?_eq_getElem (by omega)]
    rfl
theorem Ownz.mono {B' : Nat} (h : Ownz t B w A n c xs) (hB : B' ≤ B) : Ownz t B' w A n c xs := by
  refine ⟨h.1, ?_⟩
  rcases h.2 with h2 | ⟨g, cap, cur, hv, hg, r⟩
  · exact .inl h2
  · exact .inr ⟨g, cap, cur, hv, Nat.le_trans hB hg, r⟩
theorem Ownz.ex {S : Nat → Prop} (h : Ownz t B w A n c xs) (hx : Ex S w w') (hs : ∀ a, A = some a → ¬ S a.block) : Ownz t B w' A n c xs := by
  refine ⟨h.1, ?_⟩
  rcases h.2 with h2 | ⟨g, cap, cur, hv, hg, hh, r⟩
  · exact .inl h2
  · refine .inr ⟨g, cap, cur, hv, hg, ?_, r⟩
    have e1 : A = some ⟨g, 0, none⟩ := by injection hv
    rw [hx.block g (Array.getElem?_eq_some_iff.1 hh).1 (hs _ e1)]; exact hh
theorem Ownz.below (h : Ownz t B w A n c xs) (hb : Below w.heap.size w w') : Ownz t B w' A n c xs := h.ex (S := fun _ => False) (Ex.of_below hb) (fun _ _ h => h)
theorem Ownz.lies (h : Ownz t B w A n c xs) : Lies A B w.heap.size := by
  intro a e
  subst e
  rcases h.2 with ⟨h2, _⟩ | ⟨g, cap, cur, hv, hg, hh, _⟩
  · cases h2
  · injection hv with e1 _ _
    injection e1 with e1
    subst e1
    exact ⟨hg, (Array.getElem?_eq_some_iff.1 hh).1⟩
theorem Ownz.nil : Ownz t B w none 0 0 [] := World.ownsRow_nil _ _ _ _
theorem Ownz.stored {g i : Nat} {z : Int} (h : Ownz t B w (some ⟨g, 0, none⟩) n c xs) : Ownz t B (w.setCell ⟨g, i, none⟩ (.int .i64 z)) (some ⟨g, 0, none⟩) n c (xs.set i z) := by
  have := (World.ownsRow.stored (j := i) (u := .int .i64 z) h).1
  unfold Ownz
  rw [List.map_set]
  exact this
theorem Ownz.frozen {g i : Nat} (h : Ownz t B w (some ⟨g, 0, none⟩) n c xs) : w.frozen? ⟨g, i, none⟩ = false := World.ownsRow.frozenAt h i
theorem Ownz.form (h : Ownz t B w A n c xs) (hn : 0 < n) : ∃ g, A = some ⟨g, 0, none⟩ ∧ B ≤ g ∧ g < w.heap.size := by
  obtain ⟨g, cap, hv, hb, hlt⟩ := World.ownsRow.form h hn
  injection hv with hA _ _
  exact ⟨g, hA, hb, hlt⟩
theorem zv_one (ys : List Int) : ∀ u ∈ ys.map (Value.int .i64), u.oneCell' = true := by
  intro u hu
  obtain ⟨x, _, rfl⟩ := List.mem_map.1 hu
  rfl
theorem run_appz (ty : TypeId) (he : Elem P T t .i64) (hown : Ownz t B w A n c xs) (hr : Rdz w A2 m c2 ys) (hlen : n + m ≤ 1099511627776) (hB : B ≤ w.heap.size) :
    ∃ A' c' w', (Builtin.append_ #[T, T] ty #[.slice A n c, .slice A2 m c2]).run P w = .ok (.slice A' (n + m) c') w' ∧ Ownz t B w' A' (n + m) c' (xs ++ ys) ∧ Below B w w' ∧ w.grownBy w' (Value.slice A n c).ownBlock := by
  obtain ⟨hT, hinfo⟩ := he
  obtain ⟨i, hi, hz, hs, hb⟩ := info_parts hinfo
  have fin : ∀ w', w.grownBy w' (Value.slice A n c).ownBlock → Below B w w' := fun w' hg => (Below.refl _ _).grown hg hB (fun g hg' => (World.ownsRow.lt hown g hg').1)
  rcases A2 with _ | ad
  · have hm : m = 0 := by
      rcases Nat.eq_zero_or_pos m with h0 | h0
      · exact h0
      · obtain ⟨b, off, h, _⟩ := hr.2 h0
        cases h
    subst hm
    have hn : ys = [] := List.eq_nil_of_length_eq_zero hr.1.1
    subst hn
    refine ⟨A, c, w, ?_, by simpa using hown, Below.refl _ _, ⟨rfl, rfl, rfl, Nat.le_refl _, fun _ _ _ => rfl⟩⟩
    have h2 := hown.2
    rcases h2 with ⟨h2, h3⟩ | ⟨g, cap, cur, hv, _, _, hnc, _⟩
    · injection h2 with e1 e2 e3; subst e1; subst e2; subst e3
      simp [Builtin.append_, run_underlying hT, sizeOf, typeInfo, hi, Builtin.lenOf, Builtin.firstCells]
    · injection hv with e1 e2 e3; subst e1; subst e3
      simp [Builtin.append_, run_underlying hT, sizeOf, typeInfo, hi, Builtin.lenOf, Builtin.firstCells, hnc, storeCells]
  · have hcells : ∀ j u, (ys.map (Value.int .i64))[j]? = some u → w.cell? (ad.add j) = some u := by
      intro j u hu
      rw [List.getElem?_map] at hu
      obtain ⟨x, hx, rfl⟩ := Option.map_eq_some_iff.1 hu
      have hj : j < ys.length := (List.getElem?_eq_some_iff.1 hx).1
      rw [hr.1.1] at hj
      obtain ⟨b, off, h, _, hc⟩ := hr.2 (by omega)
      injection h with h
      subst h
      rw [addo, hc j hj, zth, List.getD_eq_getElem?_getD, hx]
      rfl
    obtain ⟨v', w', hrun, h2, h3, _, h5⟩ := run_append_own_at (P := P) w B T ty t i (.int .i64 0) 1 8 hT hi hz hs hb rfl (by omega) (.slice A n c) n (xs.map (Value.int .i64)) hown ad m c2 (ys.map (Value.int .i64)) (by simp [hr.1.1]) hcells (zv_one ys) (by simp only [maxLen]; omega) (by omega) hB
    have hform : ∃ A' c', v' = .slice A' (n + m) c' := by
      rcases h2.2 with ⟨h2, h3⟩ | ⟨g, cap, cur, hv, _⟩
      · exact ⟨none, 0, by rw [h2]; congr 1; omega⟩
      · exact ⟨_, _, hv⟩
    obtain ⟨A', c', rfl⟩ := hform
    exact ⟨A', c', w', hrun, by unfold Ownz; rw [List.map_append]; exact h2, fin w' h3, h3⟩
theorem wpList_appz {ops : Array Oper} {rest : List Oper} {o : Oper} {a : Act} {Q : Exit → Act → World → Prop} (hgd : o.guard = none) (s x : Operand)
    (ho : o.op = .call { callee := .builtin .append, args := #[s, x], argTypes := #[T, T] }) (he : Elem P T t .i64)
    (hs : a.eval s = .slice A n c) (hx : a.eval x = .slice A2 m c2) (hown : Ownz t B w A n c xs) (hr : Rdz w A2 m c2 ys) (hlen : n + m ≤ 1099511627776) (hB : B ≤ w.heap.size)
    (h : ∀ A' c' w', Ownz t B w' A' (n + m) c' (xs ++ ys) → Below B w w' → w.grownBy w' (Value.slice A n c).ownBlock → wpList P ops Q rest (a.put o.dst (.slice A' (n + m) c')) w') : wpList P ops Q (o :: rest) a w :=
  wpList_plain hgd fun _ hK => by
    obtain ⟨A', c', w', hrun, h2, h3, h4⟩ := run_appz (P := P) (c2 := c2) o.type he hown hr hlen hB
    unfold Oper.wp execOp
    simp only [ho, resolve, invoke, builtin, Sem.run_bind, Sem.run_pure, Result.andThen_ok, List.map_toArray, List.map_cons, List.map_nil, hs, hx, hrun]
    exact hK _ _ (h A' c' w' h2 h3 h4)
end
end Go.Proofs.YtajoafcondgelaaGreatDoor
