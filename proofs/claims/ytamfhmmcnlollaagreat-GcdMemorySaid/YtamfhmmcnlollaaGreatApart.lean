/-
  append that leaves the old slice as it was; lists of lists that lie apart from one another. No program here.
-/
import Derived.Test.YtamfhmmcnlollaaGreatExs
import Derived.Test.YtamfhmmcnlollaaGreatRows2
import Derived.Lib.AppendZeros
import Derived.ArgAppend
namespace Go.Proofs.YtamfhmmcnlollaaGreat
open Go.RowKit
set_option linter.unusedVariables false

section
variable {k : IntKind} {t T TT : TypeId} {B n c m c2 : Nat} {w w' : World} {A A2 : Option Addr} {xs ys : List Nat} {P : Program}
theorem Own.shrink {g : Nat} (h : Own k t B w (some ⟨g, 0, none⟩) (n + m) c (xs ++ ys)) (hl : xs.length = n) : Own k t B w (some ⟨g, 0, none⟩) n c xs := by
  refine ⟨by simp [hl], ?_⟩
  rcases h.2 with ⟨h2, _⟩ | ⟨g', cap, cur, hv, hg, hh, hnc, hcm, hcs, ht⟩
  · cases h2
  · injection hv with e1 _ e3
    injection e1 with e1
    injection e1 with e1 _ _
    subst e1; subst e3
    refine .inr ⟨g, c, cur, rfl, hg, hh, by omega, hcm, hcs, ?_⟩
    have e : cur.toList.take (n * 1) = (cur.toList.take ((n + m) * 1)).take (n * 1) := by rw [List.take_take]; congr 1; omega
    rw [e, ht, List.map_append, Nat.mul_one]
    have hl' : (xs.map (iv k)).length = n := by simpa using hl
    rw [← hl']
    exact List.take_left
theorem grown_some {row : Option Nat} (h : w.grownBy w' none) : w.grownBy w' row := ⟨h.1, h.2, h.3, h.4, fun i hi _ => h.5 i hi (by simp)⟩
theorem Own.kept_grown (h : Own k t B w A n c xs) (hg : w.grownBy w' none) : Own k t B w' A n c xs := by
  refine World.ownsRow.kept h hg ?_
  rcases h.2 with ⟨h1, _⟩ | ⟨g, cap, cur, hv, _, hh, _⟩
  · left; rw [h1]; rfl
  · right; rw [hv]; simp [Value.ownBlock]
end

/-- a slice's header -/
abbrev Sh := Option Addr × Nat × Nat
def shv (s : Sh) : Value := .slice s.1 s.2.1 s.2.2
/-- each header's slice is the call's own and holds F's list -/
def Els (t : TypeId) (B : Nat) (w : World) (ss : List Sh) (F : Nat → List Nat) : Prop := ∀ (i : Nat) (s : Sh), ss[i]? = some s → Own .u64 t B w s.1 s.2.1 s.2.2 (F i)
/-- no two lie in one block -/
def Apt (ss : List Sh) : Prop := ∀ (i j : Nat) (s s' : Sh), ss[i]? = some s → ss[j]? = some s' → i ≠ j → ∀ a b, s.1 = some a → s'.1 = some b → a.block ≠ b.block
/-- the blocks -/
def Blk (ss : List Sh) (b : Nat) : Prop := ∃ (i : Nat) (s : Sh) (a : Addr), ss[i]? = some s ∧ s.1 = some a ∧ a.block = b
/-- they were made one behind the other -/
def Chain : Nat → List Sh → Nat → Prop
  | lo, [], hi => lo ≤ hi
  | lo, s :: ss, hi => ∃ mid, lo ≤ mid ∧ Lies s.1 lo mid ∧ Chain mid ss hi
theorem Chain.le : ∀ {ss : List Sh} {lo hi : Nat}, Chain lo ss hi → lo ≤ hi
  | [], _, _, h => h
  | _ :: _, _, _, ⟨mid, h1, _, h3⟩ => Nat.le_trans h1 h3.le
theorem Chain.mono : ∀ {ss : List Sh} {lo hi lo' hi' : Nat}, Chain lo ss hi → lo' ≤ lo → hi ≤ hi' → Chain lo' ss hi'
  | [], _, _, _, _, h, h1, h2 => Nat.le_trans h1 (Nat.le_trans h h2)
  | _ :: _, _, _, _, _, ⟨mid, h1, h2, h3⟩, h4, h5 => ⟨mid, by omega, h2.mono h4 (Nat.le_refl _), h3.mono (Nat.le_refl _) h5⟩
theorem Chain.app : ∀ {ss ss' : List Sh} {lo mid hi : Nat}, Chain lo ss mid → Chain mid ss' hi → Chain lo (ss ++ ss') hi
  | [], _, _, _, _, h, h' => h'.mono h (Nat.le_refl _)
  | _ :: _, _, _, _, _, ⟨m, h1, h2, h3⟩, h' => ⟨m, h1, h2, h3.app h'⟩
theorem Chain.lies : ∀ {ss : List Sh} {lo hi : Nat}, Chain lo ss hi → ∀ (i : Nat) (s : Sh), ss[i]? = some s → Lies s.1 lo hi
  | [], _, _, _ => fun i s h => by simp at h
  | s0 :: ss, lo, hi, ⟨mid, h1, h2, h3⟩ => fun i s h => by
    rcases i with _ | i
    · simp at h; subst h
      exact h2.mono (Nat.le_refl _) h3.le
    · simp at h
      exact (h3.lies i s h).mono h1 (Nat.le_refl _)
theorem Chain.apt : ∀ {ss : List Sh} {lo hi : Nat}, Chain lo ss hi → Apt ss
  | [], _, _, _ => fun i j s s' h => by simp at h
  | s0 :: ss, lo, hi, ⟨mid, h1, h2, h3⟩ => fun i j s s' hi hj hne a b ha hb => by
    have ih := h3.apt
    match i, j, hi, hj, hne with
    | 0, 0, _, _, hne => exact absurd rfl hne
    | 0, j + 1, hi, hj, _ =>
      simp at hi hj
      subst hi
      have h4 := h2 a ha
      have h5 := h3.lies j s' hj b hb
      omega
    | i + 1, 0, hi, hj, _ =>
      simp at hi hj
      subst hj
      have h4 := h2 b hb
      have h5 := h3.lies i s hi a ha
      omega
    | i + 1, j + 1, hi, hj, hne =>
      simp at hi hj
      exact ih i j s s' hi hj (by omega) a b ha hb
theorem Apt.app {ss ss' : List Sh} (h : Apt ss) (h' : Apt ss') (hc : ∀ b, Blk ss b → ¬ Blk ss' b) : Apt (ss ++ ss') := by
  intro i j s s' hi hj hne a b ha hb e
  rcases Nat.lt_or_ge i ss.length with h1 | h1 <;> rcases Nat.lt_or_ge j ss.length with h2 | h2
  · rw [List.getElem?_append_left h1] at hi; rw [List.getElem?_append_left h2] at hj
    exact h i j s s' hi hj hne a b ha hb e
  · rw [List.getElem?_append_left h1] at hi; rw [List.getElem?_append_right h2] at hj
    exact hc a.block ⟨i, s, a, hi, ha, rfl⟩ ⟨_, s', b, hj, hb, e.symm⟩
  · rw [List.getElem?_append_right h1] at hi; rw [List.getElem?_append_left h2] at hj
    exact hc b.block ⟨j, s', b, hj, hb, rfl⟩ ⟨_, s, a, hi, ha, e⟩
  · rw [List.getElem?_append_right h1] at hi; rw [List.getElem?_append_right h2] at hj
    exact h' _ _ s s' hi hj (by omega) a b ha hb e
section
variable {t : TypeId} {B : Nat} {w w' : World} {ss ss' : List Sh} {F G : Nat → List Nat}
theorem Els.mono {B' : Nat} (h : Els t B w ss F) (hB : B' ≤ B) : Els t B' w ss F := fun i s hi => (h i s hi).mono hB
theorem Els.below (h : Els t B w ss F) (hb : Below w.heap.size w w') : Els t B w' ss F := fun i s hi => (h i s hi).below hb
theorem Els.ex {S : Nat → Prop} (h : Els t B w ss F) (hx : Ex S w w') (hs : ∀ b, Blk ss b → ¬ S b) : Els t B w' ss F := fun i s hi => (h i s hi).ex hx (fun a e => hs _ ⟨i, s, a, hi, e, rfl⟩)
theorem Els.nil : Els t B w [] F := fun i s hi => by simp at hi
theorem Els.cons {s : Sh} {xs : List Nat} (h0 : Own .u64 t B w s.1 s.2.1 s.2.2 xs) (h : Els t B w ss F) : Els t B w (s :: ss) (fun i => if i = 0 then xs else F (i - 1)) := by
  intro i s' hi
  rcases i with _ | i
  · simp at hi; subst hi; simpa using h0
  · simp at hi; simpa using h i s' hi
theorem Els.app (h : Els t B w ss F) (h' : Els t B w ss' G) : Els t B w (ss ++ ss') (fun i => if i < ss.length then F i else G (i - ss.length)) := by
  intro i s hi
  by_cases h1 : i < ss.length
  · rw [List.getElem?_append_left h1] at hi
    simp only [if_pos h1]; exact h i s hi
  · rw [List.getElem?_append_right (by omega)] at hi
    simp only [if_neg h1]; exact h' _ s hi
theorem Els.imp (h : Els t B w ss F) (he : ∀ i, i < ss.length → F i = G i) : Els t B w ss G := fun i s hi => by
  rw [← he i (List.getElem?_eq_some_iff.1 hi).1]; exact h i s hi
theorem Els.base (h : Els t B w ss F) {b : Nat} (hb : Blk ss b) : B ≤ b ∧ b < w.heap.size := by
  obtain ⟨i, s, a, h1, h2, rfl⟩ := hb
  exact (h i s h1).lies a h2
/-- one of them is written -/
theorem Els.write {i : Nat} {s : Sh} {ys : List Nat} (h : Els t B w ss F) (ha : Apt ss) (hi : ss[i]? = some s) (hx : Ex (fun b => ∃ a, s.1 = some a ∧ a.block = b) w w') (ho : Own .u64 t B w' s.1 s.2.1 s.2.2 ys) : Els t B w' ss (fun j => if j = i then ys else F j) := by
  intro j s' hj
  by_cases hij : j = i
  · subst hij
    rw [hi] at hj
    injection hj with hj
    subst hj
    simpa using ho
  · simp only [if_neg hij]
    exact (h j s' hj).ex hx (fun a e => fun ⟨b, e2, e3⟩ => ha j i s' s hj hi hij a b e e2 e3.symm)
end
/-- a slice of one-cell values reads as a list -/
def RdV (w : World) (A : Option Addr) (n c : Nat) (vs : List Value) : Prop :=
  (vs.length = n ∧ n ≤ c) ∧ (0 < n → ∃ b off, A = some ⟨b, off, none⟩ ∧ b < w.heap.size ∧ ∀ i, i < n → w.cell? ⟨b, off + i, none⟩ = vs[i]?)
theorem RdV.below {w w' : World} {A : Option Addr} {n c : Nat} {vs : List Value} (h : RdV w A n c vs) (hb : Below w.heap.size w w') : RdV w' A n c vs :=
  ⟨h.1, fun h0 => by
    obtain ⟨b, off, e, h1, hc⟩ := h.2 h0
    exact ⟨b, off, e, Nat.lt_of_lt_of_le h1 hb.size, fun i hi => (hb.cell (p := ⟨b, off + i, none⟩) h1).trans (hc i hi)⟩⟩
theorem RdV.ex {w w' : World} {A : Option Addr} {n c : Nat} {vs : List Value} {S : Nat → Prop} (h : RdV w A n c vs) (hx : Ex S w w') (hs : ∀ a, A = some a → ¬ S a.block) : RdV w' A n c vs :=
  ⟨h.1, fun h0 => by
    obtain ⟨b, off, e, h1, hc⟩ := h.2 h0
    exact ⟨b, off, e, Nat.lt_of_lt_of_le h1 hx.size, fun i hi => by rw [← hc i hi]; exact World.cell?_of_block (w := w) (hx.block b h1 (hs _ e))⟩⟩
theorem rdV_own {T : TypeId} {B n c : Nat} {w : World} {A : Option Addr} {vs : List Value} (h : w.ownsRow B T 1 (.slice A n c) n vs) : RdV w A n c vs := by
  have hl : vs.length = n := by have := h.1; omega
  rcases h.2 with ⟨hv, hn⟩ | ⟨g, cap, cur, hv, hg, hh, hnc, hcm, hcs, ht⟩
  · injection hv with e1 e2 e3
    subst e3
    exact ⟨⟨hl, by omega⟩, fun h0 => absurd h0 (by omega)⟩
  · injection hv with e1 e2 e3
    subst e1; subst e3
    exact ⟨⟨hl, hnc⟩, fun h0 => ⟨g, 0, rfl, (Array.getElem?_eq_some_iff.1 hh).1, fun i hi => by rw [Nat.zero_add]; exact World.ownsRow.cellAt h i (by omega)⟩⟩
/-- a row of the call's own -/
def RowV (T : TypeId) (B : Nat) (w : World) (A : Option Addr) (n c : Nat) (vs : List Value) : Prop := w.ownsRow B T 1 (.slice A n c) n vs
section
variable {T TT : TypeId} {B n c m c2 : Nat} {w w' : World} {A A2 : Option Addr} {vs us : List Value} {P : Program}
theorem RowV.below (h : RowV T B w A n c vs) (hb : Below w.heap.size w w') : RowV T B w' A n c vs := ownsRow_below h hb
theorem RowV.rd (h : RowV T B w A n c vs) : RdV w A n c vs := rdV_own h
theorem RowV.mono {B' : Nat} (h : RowV T B w A n c vs) (hB : B' ≤ B) : RowV T B' w A n c vs := by
  refine ⟨h.1, ?_⟩
  rcases h.2 with h3 | ⟨g, cap, cur, hv, hg, r⟩
  · exact .inl h3
  · exact .inr ⟨g, cap, cur, hv, by omega, r⟩
theorem RowV.lit {b : Nat} (w : World) (vs : List Value) (hb : b = w.heap.size) (hz : vs.length ≤ 1000) (hB : B ≤ w.heap.size) : RowV T B (w.alloc (.cells vs.toArray T)) (some ⟨b, 0, none⟩) vs.length vs.length vs := by
  subst hb
  have := World.ownsRow_lit (base := B) (e := T) (size := 1) w vs.toArray vs.length hB (by simp only [maxLen]; omega) (by simp)
  simpa [RowV] using this
/-- append of a row of lists -/
theorem wpList_appVs {ops : Array Oper} {rest : List Oper} {o : Oper} {a : Act} {Q : Exit → Act → World → Prop} (hgd : o.guard = none) (s x : Operand)
    (ho : o.op = .call { callee := .builtin .append, args := #[s, x], argTypes := #[TT, TT] }) (he : ElemS P TT T)
    (hs : a.eval s = .slice A n c) (hx : a.eval x = .slice A2 m c2) (hown : RowV T B w A n c vs) (hr : RdV w A2 m c2 us) (hv : ∀ u ∈ us, u.oneCell' = true) (hm : 0 < m) (hlen : n + m ≤ 1099511627776) (hB : B ≤ w.heap.size)
    (h : ∀ A' c' w', RowV T B w' A' (n + m) c' (vs ++ us) → Below B w w' → w.grownBy w' (Value.slice A n c).ownBlock → wpList P ops Q rest (a.put o.dst (.slice A' (n + m) c')) w') : wpList P ops Q (o :: rest) a w := by
  obtain ⟨hT, hinfo⟩ := he
  obtain ⟨i, hi, hz, hs1, hb⟩ := info_parts hinfo
  obtain ⟨b, off, e, _, hc⟩ := hr.2 hm
  subst e
  refine wpList_append_own_at w hgd s x TT ho B T i (.slice none 0 0) 1 24 hT hi hz hs1 hb rfl (by decide) _ n _ hs hown ⟨b, off, none⟩ m c2 us hx (by have := hr.1.1; omega) ?_ hv (by simp only [maxLen]; omega) (by omega) hB ?_
  · intro j u hj
    rw [addo]
    have hjl : j < us.length := (List.getElem?_eq_some_iff.1 hj).1
    rw [hr.1.1] at hjl
    rw [hc j hjl, hj]
  · intro v' w' h1 h2
    intros
    have hform : ∃ A' c', v' = .slice A' (n + m) c' := by
      rcases h1.2 with ⟨h3, h4⟩ | ⟨g, cap, cur, hv, _⟩
      · omega
      · exact ⟨_, _, hv⟩
    obtain ⟨A', c', rfl⟩ := hform
    exact h A' c' w' h1 ((Below.refl _ _).grown h2 hB (fun g hg' => (World.ownsRow.lt hown g hg').1)) h2
end
theorem Own.other' {k : IntKind} {t T : TypeId} {B B2 n c m d : Nat} {w w' : World} {A A2 : Option Addr} {xs : List Nat} {vs : List Value} (ho : Own k t B w A n c xs) (hr : RowV T B2 w A2 m d vs) (hne : t ≠ T) (hg : w.grownBy w' (Value.slice A2 m d).ownBlock) : Own k t B w' A n c xs := by
  refine World.ownsRow.kept ho hg ?_
  rcases ho.2 with ⟨h1, _⟩ | ⟨g, cap, cur, hv, _, hh, _⟩
  · left; rw [h1]; rfl
  · rcases hr.2 with ⟨h2, _⟩ | ⟨g2, cap2, cur2, hv2, _, hh2, _⟩
    · right; rw [hv, h2]; simp [Value.ownBlock]
    · right
      rw [hv, hv2]
      simp only [Value.ownBlock]
      intro e
      injection e with e
      subst e
      rw [hh] at hh2
      injection hh2 with hh2
      injection hh2 with _ e2 _
      exact hne e2
theorem Els.grown {t T : TypeId} {B B2 n c : Nat} {w w' : World} {A : Option Addr} {vs : List Value} {ss : List Sh} {F : Nat → List Nat} (h : Els t B2 w ss F) (hr : RowV T B w A n c vs) (hne : t ≠ T) (hg : w.grownBy w' (Value.slice A n c).ownBlock) : Els t B2 w' ss F := fun i s hi => (h i s hi).other' hr hne hg
theorem shv_one (ss : List Sh) : ∀ u ∈ ss.map shv, u.oneCell' = true := by
  intro u hu
  obtain ⟨s, _, rfl⟩ := List.mem_map.1 hu
  rfl
end Go.Proofs.YtamfhmmcnlollaaGreat
