/-
  Own slices whose elements are own slices of integers. No program here.
-/
import Derived.Test.YtamfhmmcnlollaaGreatFlt
namespace Go.Proofs.YtamfhmmcnlollaaGreat
open Go.RowKit
set_option linter.unusedVariables false
/-- an own slice (of element type T) whose elements are own slices (of element type t); F says what each one holds -/
def OwnR (k : IntKind) (t T : TypeId) (B : Nat) (w : World) (A : Option Addr) (n c : Nat) (F : Nat → List Nat → Prop) : Prop :=
  t ≠ T ∧ ∃ vs : List Value, w.ownsRow B T 1 (.slice A n c) n vs ∧ ∀ i, i < n → ∃ A' n' c' xs, vs[i]? = some (.slice A' n' c') ∧ Own k t B w A' n' c' xs ∧ F i xs

section
variable {k : IntKind} {t T TT : TypeId} {B n c : Nat} {w w' : World} {A : Option Addr} {F : Nat → List Nat → Prop} {P : Program}
theorem OwnR.nil (h : t ≠ T) : OwnR k t T B w none 0 0 F := ⟨h, [], World.ownsRow_nil _ _ _ _, fun i hi => absurd hi (Nat.not_lt_zero i)⟩
theorem OwnR.mono {B' : Nat} (h : OwnR k t T B w A n c F) (hB : B' ≤ B) : OwnR k t T B' w A n c F := by
  obtain ⟨h0, vs, h1, h2⟩ := h
  refine ⟨h0, vs, ⟨h1.1, ?_⟩, fun i hi => ?_⟩
  · rcases h1.2 with h3 | ⟨g, cap, cur, hv, hg, r⟩
    · exact .inl h3
    · exact .inr ⟨g, cap, cur, hv, by omega, r⟩
  · obtain ⟨A', n', c', xs, e, o, f⟩ := h2 i hi
    exact ⟨A', n', c', xs, e, o.mono hB, f⟩
theorem ownsRow_below {v : Value} {m : Nat} {xs : List Value} {s : Nat} {e : TypeId} (h : w.ownsRow B e s v m xs) (hb : Below w.heap.size w w') : w'.ownsRow B e s v m xs := by
  refine ⟨h.1, ?_⟩
  rcases h.2 with h2 | ⟨g, cap, cur, hv, hg, hh, r⟩
  · exact .inl h2
  · refine .inr ⟨g, cap, cur, hv, hg, ?_, r⟩
    rw [hb.block g (Array.getElem?_eq_some_iff.1 hh).1]; exact hh
theorem OwnR.below (h : OwnR k t T B w A n c F) (hb : Below w.heap.size w w') : OwnR k t T B w' A n c F := by
  obtain ⟨h0, vs, h1, h2⟩ := h
  refine ⟨h0, vs, ownsRow_below h1 hb, fun i hi => ?_⟩
  obtain ⟨A', n', c', xs, e, o, f⟩ := h2 i hi
  exact ⟨A', n', c', xs, e, o.below hb, f⟩
theorem OwnR.imp {G : Nat → List Nat → Prop} (h : OwnR k t T B w A n c F) (hi : ∀ i xs, i < n → F i xs → G i xs) : OwnR k t T B w A n c G := by
  obtain ⟨h0, vs, h1, h2⟩ := h
  refine ⟨h0, vs, h1, fun i hlt => ?_⟩
  obtain ⟨A', n', c', xs, e, o, f⟩ := h2 i hlt
  exact ⟨A', n', c', xs, e, o, hi i xs hlt f⟩
theorem OwnR.at {i : Nat} (h : OwnR k t T B w A n c F) (hi : i < n) : ∃ g A' n' c' xs, A = some ⟨g, 0, none⟩ ∧ B ≤ g ∧ g < w.heap.size ∧ w.cell? ⟨g, i, none⟩ = some (.slice A' n' c') ∧ Own k t B w A' n' c' xs ∧ F i xs := by
  obtain ⟨h0, vs, h1, h2⟩ := h
  obtain ⟨A', n', c', xs, e, o, f⟩ := h2 i hi
  obtain ⟨g, cap, hv, hb, hlt⟩ := World.ownsRow.form h1 (by omega)
  injection hv with hA _ hc
  subst hA; subst hc
  exact ⟨g, A', n', c', xs, rfl, hb, hlt, by rw [World.ownsRow.cellAt h1 i (by omega), e], o, f⟩
theorem OwnR.cap (h : OwnR k t T B w A n c F) : n ≤ c ∧ c ≤ maxLen := by
  obtain ⟨h0, vs, h1, h2⟩ := h
  rcases h1.2 with ⟨h3, h4⟩ | ⟨g, cap, cur, hv, hg, hh, hnc, hcm, r⟩
  · injection h3 with _ e1 e2; subst e1; subst e2; exact ⟨Nat.le_refl _, Nat.zero_le _⟩
  · injection hv with _ _ e; subst e; exact ⟨hnc, hcm⟩

/-- an own slice of another type than the block that has turned -/
theorem Own.other {T : TypeId} {xs : List Nat} {vs : List Value} {v : Value} {m s : Nat} (ho : Own k t B w A n c xs) (hr : w.ownsRow B T s v m vs) (hne : t ≠ T) (hg : w.grownBy w' v.ownBlock) : Own k t B w' A n c xs := by
  refine World.ownsRow.kept ho hg ?_
  rcases ho.2 with ⟨h1, _⟩ | ⟨g, cap, cur, hv, _, hh, _⟩
  · left; rw [h1]; rfl
  · rcases hr.2 with ⟨h2, _⟩ | ⟨g2, cap2, cur2, hv2, _, hh2, _⟩
    · right; rw [hv, h2]; simp [Value.ownBlock]
    · right
      rw [hv, hv2]
      simp only [Value.ownBlock]
      intro e
      injection e with e
      subst e
      rw [hh] at hh2
      injection hh2 with hh2
      injection hh2 with _ e2 _
      exact hne e2

/-- the slice literal of one list -/
theorem OwnR.lit1 {A1 : Option Addr} {n1 c1 : Nat} {xs : List Nat} (hne : t ≠ T) (ho : Own k t B w A1 n1 c1 xs) (hF : F 0 xs) (hB : B ≤ w.heap.size) : OwnR k t T B (w.alloc (.cells #[.slice A1 n1 c1] T)) (some ⟨w.heap.size, 0, none⟩) 1 1 F := by
  refine ⟨hne, [.slice A1 n1 c1], World.ownsRow_lit (base := B) (e := T) (size := 1) w #[.slice A1 n1 c1] 1 hB (by simp [maxLen]) (by simp), fun i hi => ?_⟩
  obtain rfl : i = 0 := by omega
  exact ⟨A1, n1, c1, xs, rfl, ho.below ((Below.refl _ _).alloc (Nat.le_refl _) _), hF⟩
end
end Go.Proofs.YtamfhmmcnlollaaGreat
