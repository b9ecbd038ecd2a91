/-
  append that leaves the old slice as it was; lists of lists that lie apart from one another. No program here.
-/
import Derived.Test.YtamfhmmcnlollaaGreatExs
import Derived.Test.YtamfhmmcnlollaaGreatRows2
import Derived.Lib.AppendZeros
import Derived.ArgAppend
namespace Go.Proofs.YtamfhmmcnlollaaGreat
open Go.RowKit
set_option linter.unusedVariables false

section
variable {k : IntKind} {t T TT : TypeId} {B n c m c2 : Nat} {w w' : World} {A A2 : Option Addr} {xs ys : List Nat} {P : Program}
theorem grown_some {row : Option Nat} (h : w.grownBy w' none) : w.grownBy w' row := ⟨h.1, h.2, h.3, h.4, fun i hi _ => h.5 i hi (by simp)⟩
theorem Own.kept_grown (h : Own k t B w A n c xs) (hg : w.grownBy w' none) : Own k t B w' A n c xs := by
  refine World.ownsRow.kept h hg ?_
  rcases h.2 with ⟨h1, _⟩ | ⟨g, cap, cur, hv, _, hh, _⟩
  · left; rw [h1]; rfl
  · right; rw [hv]; simp [Value.ownBlock]
end

/-- a slice's header -/
abbrev Sh := Option Addr × Nat × Nat
def shv (s : Sh) : Value := .slice s.1 s.2.1 s.2.2
/-- each header's slice is the call's own and holds F's list -/
def Els (t : TypeId) (B : Nat) (w : World) (ss : List Sh) (F : Nat → List Nat) : Prop := ∀ (i : Nat) (s : Sh), ss[i]? = some s → Own .u64 t B w s.1 s.2.1 s.2.2 (F i)
/-- no two lie in one block -/
def Apt (ss : List Sh) : Prop := ∀ (i j : Nat) (s s' : Sh), ss[i]? = some s → ss[j]? = some s' → i ≠ j → ∀ a b, s.1 = some a → s'.1 = some b → a.block ≠ b.block
/-- the blocks -/
def Blk (ss : List Sh) (b : Nat) : Prop := ∃ (i : Nat) (s : Sh) (a : Addr), ss[i]? = some s ∧ s.1 = some a ∧ a.block = b
/-- they were made one behind the other -/
def Chain : Nat → List Sh → Nat → Prop
  | lo, [], hi => lo ≤ hi
  | lo, s :: ss, hi => ∃ mid, lo ≤ mid ∧ Lies s.1 lo mid ∧ Chain mid ss hi
theorem Chain.le : ∀ {ss : List Sh} {lo hi : Nat}, Chain lo ss hi → lo ≤ hi
  | [], _, _, h => h
  | _ :: _, _, _, ⟨mid, h1, _, h3⟩ => Nat.le_trans h1 h3.le
theorem Chain.mono : ∀ {ss : List Sh} {lo hi lo' hi' : Nat}, Chain lo ss hi → lo' ≤ lo → hi ≤ hi' → Chain lo' ss hi'
  | [], _, _, _, _, h, h1, h2 => Nat.le_trans h1 (Nat.le_trans h h2)
  | _ :: _, _, _, _, _, ⟨mid, h1, h2, h3⟩, h4, h5 => ⟨mid, by omega, h2.mono h4 (Nat.le_refl _), h3.mono (Nat.le_refl _) h5⟩
theorem Chain.app : ∀ {ss ss' : List Sh} {lo mid hi : Nat}, Chain lo ss mid → Chain mid ss' hi → Chain lo (ss ++ ss') hi
  | [], _, _, _, _, h, h' => h'.mono h (Nat.le_refl _)
  | _ :: _, _, _, _, _, ⟨m, h1, h2, h3⟩, h' => ⟨m, h1, h2, h3.app h'⟩
theorem Chain.lies : ∀ {ss : List Sh} {lo hi : Nat}, Chain lo ss hi → ∀ (i : Nat) (s : Sh), ss[i]? = some s → Lies s.1 lo hi
  | [], _, _, _ => fun i s h => by simp at h
  | s0 :: ss, lo, hi, ⟨mid, h1, h2, h3⟩ => fun i s h => by
    rcases i with _ | i
    · simp at h; subst h
      exact h2.mono (Nat.le_refl _) h3.le
    · simp at h
      exact (h3.lies i s h).mono h1 (Nat.le_refl _)
theorem Apt.app {ss ss' : List Sh} (h : Apt ss) (h' : Apt ss') (hc : ∀ b, Blk ss b → ¬ Blk ss' b) : Apt (ss ++ ss') := by
  intro i j s s' hi hj hne a b ha hb e
  rcases Nat.lt_or_ge i ss.length with h1 | h1 <;> rcases Nat.lt_or_ge j ss.length with h2 | h2
  · rw [List.getElem?_append_left h1] at hi; rw [List.getElem?_append_left h2] at hj
    exact h i j s s' hi hj hne a b ha hb e
  · rw [List.getElem?_append_left h1] at hi; rw [List.getElem?_append_right h2] at hj
    exact hc a.block ⟨i, s, a, hi, ha, rfl⟩ ⟨_, s', b, hj, hb, e.symm⟩
  · rw [List.getElem?_append_right h1] at hi; rw [List.getElem?_append_left h2] at hj
    exact hc b.block ⟨j, s', b, hj, hb, rfl⟩ ⟨_, s, a, hi, ha, e⟩
  · rw [List.getElem?_append_right h1] at hi; rw [List.getElem?_append_right h2] at hj
    exact h' _ _ s s' hi hj (by omega) a b ha hb e
section
variable {t : TypeId} {B : Nat} {w w' : World} {ss ss' : List Sh} {F G : Nat → List Nat}
theorem Els.mono {B' : Nat} (h : Els t B w ss F) (hB : B' ≤ B) : Els t B' w ss F := fun i s hi => (h i s hi).mono hB
theorem Els.below (h : Els t B w ss F) (hb : Below w.heap.size w w') : Els t B w' ss F := fun i s hi => (h i s hi).below hb
theorem Els.ex {S : Nat → Prop} (h : Els t B w ss F) (hx : Ex S w w') (hs : ∀ b, Blk ss b → ¬ S b) : Els t B w' ss F := fun i s hi => (h i s hi).ex hx (fun a e => hs _ ⟨i, s, a, hi, e, rfl⟩)
theorem Els.nil : Els t B w [] F := fun i s hi => by simp at hi
theorem Els.cons {s : Sh} {xs : List Nat} (h0 : Own .u64 t B w s.1 s.2.1 s.2.2 xs) (h : Els t B w ss F) : Els t B w (s :: ss) (fun i => if i = 0 then xs else F (i - 1)) := by
  intro i s' hi
  rcases i with _ | i
  · simp at hi; subst hi; simpa using h0
  · simp at hi; simpa using h i s' hi
theorem Els.app (h : Els t B w ss F) (h' : Els t B w ss' G) : Els t B w (ss ++ ss') (fun i => if i < ss.length then F i else G (i - ss.length)) := by
  intro i s hi
  by_cases h1 : i < ss.length
  · rw [List.getElem?_append_left h1] at hi
    simp only [if_pos h1]; exact h i s hi
  · rw [List.getElem?_append_right (by omega)] at hi
    simp only [if_neg h1]; exact h' _ s hi
theorem Els.imp (h : Els t B w ss F) (he : ∀ i, i < ss.length → F i = G i) : Els t B w ss G := fun i s hi => by
  rw [← he i (List.getElem?_eq_some_iff.1 hi).1]; exact h i s hi
end
/-- a slice of one-cell values reads as a list -/
def RdV (w : World) (A : Option Addr) (n c : Nat) (vs : List Value) : Prop :=
  (vs.length = n ∧ n ≤ c) ∧ (0 < n → ∃ b off, A = some ⟨b, off, none⟩ ∧ b < w.heap.size ∧ ∀ i, i < n → w.cell? ⟨b, off + i, none⟩ = vs[i]?)
theorem RdV.below {w w' : World} {A : Option Addr} {n c : Nat} {vs : List Value} (h : RdV w A n c vs) (hb : Below w.heap.size w w') : RdV w' A n c vs :=
  ⟨h.1, fun h0 => by
    obtain ⟨b, off, e, h1, hc⟩ := h.2 h0
    exact ⟨b, off, e, Nat.lt_of_lt_of_le h1 hb.size, fun i hi => (hb.cell (p := ⟨b, off + i, none⟩) h1).trans (hc i hi)⟩⟩
theorem RdV.ex {w w' : World} {A : Option Addr} {n c : Nat} {vs : List Value} {S : Nat → Prop} (h : RdV w A n c vs) (hx : Ex S w w') (hs : ∀ a, A = some a → ¬ S a.block) : RdV w' A n c vs :=
  ⟨h.1, fun h0 => by
    obtain ⟨b, off, e, h1, hc⟩ := h.2 h0
    exact ⟨b, off, e, Nat.lt_of_lt_of_le h1 hx.size, fun i hi => by rw [← hc i hi]; exact World.cell?_of_block (w := w) (hx.block b h1 (hs _ e))⟩⟩
theorem rdV_own {T : TypeId} {B n c : Nat} {w : World} {A : Option Addr} {vs : List Value} (h : w.ownsRow B T 1 (.slice A n c) n vs) : RdV w A n c vs := by
  have hl : vs.length = n := by have := h.1; omega
  rcases h.2 with ⟨hv, hn⟩ | ⟨g, cap, cur, hv, hg, hh, hnc, hcm, hcs, ht⟩
  · injection hv with e1 e2 e3
    subst e3
    exact ⟨⟨hl, by omega⟩, fun h0 => absurd h0 (by omega)⟩
  · injection hv with e1 e2 e3
    subst e1; subst e3
    exact ⟨⟨hl, hnc⟩, fun h0 => ⟨g, 0, rfl, (Array.getElem?_eq_some_iff.1 hh).1, fun i hi => by rw [Nat.zero_add]; exact World.ownsRow.cellAt h i (by omega)⟩⟩
/-- a row of the call's own -/
def RowV (T : TypeId) (B : Nat) (w : World) (A : Option Addr) (n c : Nat) (vs : List Value) : Prop := w.ownsRow B T 1 (.slice A n c) n vs
section
variable {T TT : TypeId} {B n c m c2 : Nat} {w w' : World} {A A2 : Option Addr} {vs us : List Value} {P : Program}
theorem RowV.below (h : RowV T B w A n c vs) (hb : Below w.heap.size w w') : RowV T B w' A n c vs := ownsRow_below h hb
theorem RowV.rd (h : RowV T B w A n c vs) : RdV w A n c vs := rdV_own h
theorem RowV.mono {B' : Nat} (h : RowV T B w A n c vs) (hB : B' ≤ B) : RowV T B' w A n c vs := by
  refine ⟨h.1, ?_⟩
  rcases h.2 with h3 | ⟨g, cap, cur, hv, hg, r⟩
  · exact .inl h3
  · exact .inr ⟨g, cap, cur, hv, by omega, r⟩
theorem RowV.lit {b : Nat} (w : World) (vs : List Value) (hb : b = w.heap.size) (hz : vs.length ≤ 1000) (hB : B ≤ w.heap.size) : RowV T B (w.alloc (.cells vs.toArray T)) (some ⟨b, 0, none⟩) vs.length vs.length vs := by
  subst hb
  have := World.ownsRow_lit (base := B) (e := T) (size := 1) w vs.toArray vs.length hB (by simp only [maxLen]; omega) (by simp)
  simpa [RowV] using this
end
theorem Own.other' {k : IntKind} {t T : TypeId} {B B2 n c m d : Nat} {w w' : World} {A A2 : Option Addr} {xs : List Nat} {vs : List Value} (ho : Own k t B w A n c xs) (hr : RowV T B2 w A2 m d vs) (hne : t ≠ T) (hg : w.grownBy w' (Value.slice A2 m d).ownBlock) : Own k t B w' A n c xs := by
  refine World.ownsRow.kept ho hg ?_
  rcases ho.2 with ⟨h1, _⟩ | ⟨g, cap, cur, hv, _, hh, _⟩
  · left; rw [h1]; rfl
  · rcases hr.2 with ⟨h2, _⟩ | ⟨g2, cap2, cur2, hv2, _, hh2, _⟩
    · right; rw [hv, h2]; simp [Value.ownBlock]
    · right
      rw [hv, hv2]
      simp only [Value.ownBlock]
      intro e
      injection e with e
      subst e
      rw [hh] at hh2
      injection hh2 with hh2
      injection hh2 with _ e2 _
      exact hne e2
theorem Els.grown {t T : TypeId} {B B2 n c : Nat} {w w' : World} {A : Option Addr} {vs : List Value} {ss : List Sh} {F : Nat → List Nat} (h : Els t B2 w ss F) (hr : RowV T B w A n c vs) (hne : t ≠ T) (hg : w.grownBy w' (Value.slice A n c).ownBlock) : Els t B2 w' ss F := fun i s hi => (h i s hi).other' hr hne hg
end Go.Proofs.YtamfhmmcnlollaaGreat
