/-
  A law for regions that draw their order and store at their end: what is stored may be memory that was loaded before: each store waits for all that is taken first. No program here.
-/
import Derived.Test.YtphofjinncbaaaaOrd
namespace Go.Proofs.Ytphofjinncbaaaa
open Go.RowKit
set_option linter.unusedVariables false

section
variable {P : Program} {ops : Array Oper} {md : Region.Mode} {Q : Exit → Act → World → Prop} {st : List Nat}

/-- whatever order is picked, old memory stays but for what the stores do -/
def wpAnyS (P : Program) (md : Region.Mode) (ops : Array Oper) (Q : Exit → Act → World → Prop) (st : List Nat) : Nat → Array Bool → Act → World → Prop
  | 0, listed, a, w => Region.ready md ops listed = [] ∧ Q .normal a w
  | fuel + 1, listed, a, w =>
    (Region.ready md ops listed = [] → Q .normal a w) ∧
    ∀ i ∈ Region.ready md ops listed, wpOp P ops Q i (fun a' w' => (i ∈ st ∨ Grow none w w') ∧ wpAnyS P md ops Q st fuel (listed.setIfInBounds i true) a' w') a w
theorem wpAny_of_S : ∀ (fuel : Nat) (listed : Array Bool) (a : Act) (w : World), wpAnyS P md ops Q st fuel listed a w → wpAny P md ops Q fuel listed a w
  | 0, _, _, _, h => h
  | fuel + 1, _, _, _, h => ⟨h.1, fun i hi => wpOp_mono (fun a' w' h' => wpAny_of_S fuel _ a' w' h'.2) (h.2 i hi)⟩

/-- does number j wait for number i? -/
def waits (md : Region.Mode) (ops : Array Oper) (j i : Nat) : Bool :=
  match ops[j]? with
  | some o => o.after.any fun e => Region.binds md e && decide (e.on = i)
  | none => true

theorem wpAnyS_first {i : Nat} {oi : Oper} {v : Value} (hi : ops[i]? = some oi) (hsel : ∀ (j : Nat) (o : Oper) cs b, ops[j]? = some o → o.op ≠ .select cs b)
    (hQ : ∀ c a w, Q (.panic c) (a.put oi.dst v) w → Q (.panic c) a w) :
    ∀ (fuel : Nat) (listed : Array Bool) (a : Act) (w : World),
      (∀ j oj, ops[j]? = some oj → j ≠ i → listed.getD j true = false → (∀ e ∈ oj.after, Region.binds md e = true → e.on ≠ i) → oi.apart ops oj = true) →
      (∀ j ∈ st, listed.getD j true = true ∨ waits md ops j i = true) →
      i ∈ Region.ready md ops listed → YieldsIf P ops (Grow none w) oi v a →
      wpAnyS P md ops Q st fuel (listed.setIfInBounds i true) (a.put oi.dst v) w → wpAnyS P md ops Q st (fuel + 1) listed a w := by
  intro fuel
  induction fuel with
  | zero =>
    intro listed a w _ _ hr hy H
    refine ⟨fun h => (by rw [h] at hr; cases hr), fun j hj => ?_⟩
    by_cases hji : j = i
    · subst hji; exact hy.wpOp hi (Grow.refl none w) ⟨.inr (Grow.refl none w), H⟩
    · have := ready_mono hj hji
      rw [H.1] at this
      cases this
  | succ fuel ih =>
    intro listed a w hfree hst hr hy H
    refine ⟨fun h => (by rw [h] at hr; cases hr), fun j hj => ?_⟩
    by_cases hji : j = i
    · subst hji; exact hy.wpOp hi (Grow.refl none w) ⟨.inr (Grow.refl none w), H⟩
    · have h1 := H.2 j (ready_mono hj hji)
      obtain ⟨hjun, oj, hoj, hall⟩ := mem_ready.1 hj
      have hnot : ∀ e ∈ oj.after, Region.binds md e = true → e.on ≠ i := fun e he hb heq => by
        have h1 := hall e he hb
        have h0 := (mem_ready.1 hr).1
        rw [heq] at h1
        rcases Nat.lt_or_ge i listed.size with h' | h'
        · simp [h'] at h0 h1; rw [h0] at h1; cases h1
        · simp [Array.getElem?_eq_none h'] at h1
      have hns : j ∉ st := fun hjs => by
        rcases hst j hjs with h2 | h2
        · rw [hjun] at h2; cases h2
        · unfold waits at h2
          rw [hoj] at h2
          simp only [Array.any_eq_true, Bool.and_eq_true, decide_eq_true_eq] at h2
          obtain ⟨k, hk, hb, he⟩ := h2
          exact hnot _ (Array.getElem_mem hk) hb he
      have h2 := wpOp_putIf hoj (hfree j oj hoj hji hjun hnot) (fun cs b => hsel i oi cs b hi) (fun cs b => hsel j oj cs b hoj) hQ hy h1
      have hfree' : ∀ k ok, ops[k]? = some ok → k ≠ i → (listed.setIfInBounds j true).getD k true = false →
          (∀ e ∈ ok.after, Region.binds md e = true → e.on ≠ i) → oi.apart ops ok = true := fun k ok hk hki hun hno => by
        refine hfree k ok hk hki ?_ hno
        by_cases hjk : j = k
        · subst hjk; exact hjun
        · rw [getD_set_ne true hjk] at hun; exact hun
      have hst' : ∀ k ∈ st, (listed.setIfInBounds j true).getD k true = true ∨ waits md ops k i = true := fun k hk => by
        rcases hst k hk with h3 | h3
        · left
          by_cases hjk : j = k
          · subst hjk; exact absurd hk hns
          · rw [getD_set_ne true hjk]; exact h3
        · exact .inr h3
      refine wpOp_mono (fun a' w' h3 => ?_) h2
      have hg : Grow none w w' := h3.2.1.resolve_left hns
      refine ⟨h3.2.1, ih (listed.setIfInBounds j true) a' w' hfree' hst' (ready_mono hr (Ne.symm hji)) (yieldsIf_weak (fun u hu => Grow.trans none _ _ _ hg hu) h3.1) ?_⟩
      rw [Array.setIfInBounds_comm _ _ hji]
      exact h3.2.2

theorem wpAnyS_firstT {i : Nat} {oi : Oper} {v : Value} (hi : ops[i]? = some oi) (hsel : ∀ (j : Nat) (o : Oper) cs b, ops[j]? = some o → o.op ≠ .select cs b)
    (hQ : ∀ c a w, Q (.panic c) (a.put oi.dst v) w → Q (.panic c) a w) :
    ∀ (fuel : Nat) (listed : Array Bool) (a : Act) (w : World),
      (∀ j oj, ops[j]? = some oj → j ≠ i → listed.getD j true = false → (∀ e ∈ oj.after, Region.binds md e = true → e.on ≠ i) → oi.apart ops oj = true) →
      i ∈ Region.ready md ops listed → YieldsIf P ops (fun _ => True) oi v a →
      wpAnyS P md ops Q st fuel (listed.setIfInBounds i true) (a.put oi.dst v) w → wpAnyS P md ops Q st (fuel + 1) listed a w := by
  intro fuel
  induction fuel with
  | zero =>
    intro listed a w _ hr hy H
    refine ⟨fun h => (by rw [h] at hr; cases hr), fun j hj => ?_⟩
    by_cases hji : j = i
    · subst hji; exact hy.wpOp hi trivial ⟨.inr (Grow.refl none w), H⟩
    · have := ready_mono hj hji
      rw [H.1] at this
      cases this
  | succ fuel ih =>
    intro listed a w hfree hr hy H
    refine ⟨fun h => (by rw [h] at hr; cases hr), fun j hj => ?_⟩
    by_cases hji : j = i
    · subst hji; exact hy.wpOp hi trivial ⟨.inr (Grow.refl none w), H⟩
    · have h1 := H.2 j (ready_mono hj hji)
      obtain ⟨hjun, oj, hoj, hall⟩ := mem_ready.1 hj
      have hnot : ∀ e ∈ oj.after, Region.binds md e = true → e.on ≠ i := fun e he hb heq => by
        have h1 := hall e he hb
        have h0 := (mem_ready.1 hr).1
        rw [heq] at h1
        rcases Nat.lt_or_ge i listed.size with h' | h'
        · simp [h'] at h0 h1; rw [h0] at h1; cases h1
        · simp [Array.getElem?_eq_none h'] at h1
      have h2 := wpOp_putIf hoj (hfree j oj hoj hji hjun hnot) (fun cs b => hsel i oi cs b hi) (fun cs b => hsel j oj cs b hoj) hQ hy h1
      have hfree' : ∀ k ok, ops[k]? = some ok → k ≠ i → (listed.setIfInBounds j true).getD k true = false →
          (∀ e ∈ ok.after, Region.binds md e = true → e.on ≠ i) → oi.apart ops ok = true := fun k ok hk hki hun hno => by
        refine hfree k ok hk hki ?_ hno
        by_cases hjk : j = k
        · subst hjk; exact hjun
        · rw [getD_set_ne true hjk] at hun; exact hun
      refine wpOp_mono (fun a' w' h3 => ?_) h2
      refine ⟨h3.2.1, ih (listed.setIfInBounds j true) a' w' hfree' (ready_mono hr (Ne.symm hji)) h3.1 ?_⟩
      rw [Array.setIfInBounds_comm _ _ hji]
      exact h3.2.2

/-- an order: 0 taken first (pure), 1 alone (old memory stays), 2 a store, alone, 3 taken first, whatever the world -/
def sordB (md : Region.Mode) (ops : Array Oper) (st : List Nat) : List (Nat × Nat) → Array Bool → Bool
  | [], listed => (Region.ready md ops listed).isEmpty
  | (0, i) :: rest, listed => (Region.ready md ops listed).contains i && Region.free md ops listed i && st.all (fun j => listed.getD j true || waits md ops j i) && sordB md ops st rest (listed.setIfInBounds i true)
  | (1, i) :: rest, listed => decide (Region.ready md ops listed = [i]) && sordB md ops st rest (listed.setIfInBounds i true)
  | (3, i) :: rest, listed => (Region.ready md ops listed).contains i && Region.free md ops listed i && sordB md ops st rest (listed.setIfInBounds i true)
  | (_, i) :: rest, listed => st.contains i && decide (Region.ready md ops listed = [i]) && sordB md ops st rest (listed.setIfInBounds i true)
def wpS (P : Program) (ops : Array Oper) (Q : Exit → Act → World → Prop) : List (Nat × Nat) → Act → World → Prop
  | [], a, w => Q .normal a w
  | (0, i) :: rest, a, w => ∃ o, ops[i]? = some o ∧ ∃ v, YieldsIf P ops (Grow none w) o v a ∧ wpS P ops Q rest (a.put o.dst v) w
  | (1, i) :: rest, a, w => wpOp P ops (onlyN Q) i (fun a' w' => Grow none w w' ∧ wpS P ops Q rest a' w') a w
  | (3, i) :: rest, a, w => ∃ o, ops[i]? = some o ∧ ∃ v, YieldsIf P ops (fun _ => True) o v a ∧ wpS P ops Q rest (a.put o.dst v) w
  | (_, i) :: rest, a, w => wpOp P ops (onlyN Q) i (fun a' w' => wpS P ops Q rest a' w') a w
theorem wpAnyS_of_ord (hs : Region.noSelect ops = true) :
    ∀ (l : List (Nat × Nat)) (listed : Array Bool) (a : Act) (w : World), sordB md ops st l listed = true → wpS P ops Q l a w → wpAnyS P md ops (onlyN Q) st l.length listed a w
  | [], listed, a, w, hB, h => ⟨by simpa [sordB] using hB, rfl, h⟩
  | (0, i) :: rest, listed, a, w, hB, h => by
    simp only [sordB, Bool.and_eq_true, List.all_eq_true, Bool.or_eq_true] at hB
    obtain ⟨⟨⟨hr, hf⟩, hst⟩, hB'⟩ := hB
    obtain ⟨o, ho, v, hy, h'⟩ := h
    exact wpAnyS_first ho (Region.noSelect_spec hs) (fun c a w hh => absurd hh.1 (by simp)) rest.length listed a w (Region.free_spec ho hf) hst (by simpa using hr) hy
      (wpAnyS_of_ord hs rest _ _ _ hB' h')
  | (1, i) :: rest, listed, a, w, hB, h => by
    simp only [sordB, Bool.and_eq_true, decide_eq_true_eq] at hB
    refine ⟨fun h0 => (by rw [hB.1] at h0; cases h0), fun j hj => ?_⟩
    rw [hB.1] at hj
    have hji : j = i := by simpa using hj
    subst hji
    exact wpOp_mono (fun a' w' h' => ⟨.inr h'.1, wpAnyS_of_ord hs rest _ _ _ hB.2 h'.2⟩) h
  | (3, i) :: rest, listed, a, w, hB, h => by
    simp only [sordB, Bool.and_eq_true] at hB
    obtain ⟨⟨hr, hf⟩, hB'⟩ := hB
    obtain ⟨o, ho, v, hy, h'⟩ := h
    exact wpAnyS_firstT ho (Region.noSelect_spec hs) (fun c a w hh => absurd hh.1 (by simp)) rest.length listed a w (Region.free_spec ho hf) (by simpa using hr) hy
      (wpAnyS_of_ord hs rest _ _ _ hB' h')
  | (2, i) :: rest, listed, a, w, hB, h => by
    simp only [sordB, Bool.and_eq_true, decide_eq_true_eq] at hB
    refine ⟨fun h0 => (by rw [hB.1.2] at h0; cases h0), fun j hj => ?_⟩
    rw [hB.1.2] at hj
    have hji : j = i := by simpa using hj
    subst hji
    exact wpOp_mono (fun a' w' h' => ⟨.inl (by simpa using hB.1.1), wpAnyS_of_ord hs rest _ _ _ hB.2 h'⟩) h
  | (k + 4, i) :: rest, listed, a, w, hB, h => by
    simp only [sordB, Bool.and_eq_true, decide_eq_true_eq] at hB
    refine ⟨fun h0 => (by rw [hB.1.2] at h0; cases h0), fun j hj => ?_⟩
    rw [hB.1.2] at hj
    have hji : j = i := by simpa using hj
    subst hji
    exact wpOp_mono (fun a' w' h' => ⟨.inl (by simpa using hB.1.1), wpAnyS_of_ord hs rest _ _ _ hB.2 h'⟩) h
def storesOf (l : List (Nat × Nat)) : List Nat := (l.filter fun x => decide (x.1 = 2)).map (·.2)
theorem wp_region_stores {id : Nat} {a : Act} {w : World} (l : List (Nat × Nat)) (hm : P.follows .mixedOrders = true)
    (hB : (Region.noSelect ops && decide (l.length = ops.size) && sordB .any ops (storesOf l) l (Array.replicate ops.size false)) = true)
    (h : wpS P ops Q l a w.drew) : (Code.region id ops true).wp P Q a w := by
  simp only [Bool.and_eq_true, decide_eq_true_eq] at hB
  obtain ⟨⟨hs, hl⟩, hB'⟩ := hB
  refine wp_region_any hm (wpAny_onlyN _ _ _ _ (wpAny_of_S (st := storesOf l) _ _ _ _ ?_))
  rw [← hl]
  exact wpAnyS_of_ord hs l _ a _ (by rw [hl]; exact hB') h
end
section
variable {P : Program} {l : List Oper} {Q : Exit → Act → World → Prop}
theorem sord_pas {i : Nat} {o : Oper} {rest : List (Nat × Nat)} {a : Act} {w : World} (ho' : opAt l i = some o)
    (h : ∀ K : Value → Act → Prop, (∀ v a', (∀ w', Grow none w w' → if Region.wanted o (yielded l.toArray a.tmps) then pasOf (· = v) w' ((execOp a.eval o).run P w') else undef = v) → wpS P l.toArray Q rest a' w → K v a') →
      if Region.wanted o (yielded l.toArray a.tmps) then pasOf (fun v => K v (a.put o.dst v)) w ((execOp a.eval o).run P w) else K undef (a.put o.dst undef)) : wpS P l.toArray Q ((0, i) :: rest) a w := by
  have ho : l.toArray[i]? = some o := (opAt_eq l i).trans ho'
  refine ⟨o, ho, ?_⟩
  cases hw : Region.wanted o (yielded l.toArray a.tmps) with
  | true =>
    simp only [hw, if_true] at h
    have h1 := h (fun v a' => (∀ w', Grow none w w' → pasOf (· = v) w' ((execOp a.eval o).run P w')) ∧ wpS P l.toArray Q rest a' w) (fun v a' h2 h3 => ⟨h2, h3⟩)
    generalize (execOp a.eval o).run P w = r at h1
    cases r with
    | ok n w' =>
      cases n <;> simp only [pasOf] at h1
      case value v => exact ⟨v, .inl ⟨hw, fun w' hr => pasOf_eq (h1.2.1 w' hr)⟩, h1.2.2⟩
    | halt x w' => exact h1.elim
  | false =>
    simp only [hw] at h
    have h1 := h (fun v a' => wpS P l.toArray Q rest a' w ∧ v = undef) (fun v a' h2 h3 => ⟨h3, (h2 w (Grow.refl none w)).symm⟩)
    exact ⟨undef, .inr ⟨hw, rfl⟩, h1.1⟩
theorem sord_pasT {i : Nat} {o : Oper} {rest : List (Nat × Nat)} {a : Act} {w : World} (ho' : opAt l i = some o)
    (h : ∀ K : Value → Act → Prop, (∀ v a', (∀ w', True → if Region.wanted o (yielded l.toArray a.tmps) then pasOf (· = v) w' ((execOp a.eval o).run P w') else undef = v) → wpS P l.toArray Q rest a' w → K v a') →
      if Region.wanted o (yielded l.toArray a.tmps) then pasOf (fun v => K v (a.put o.dst v)) w ((execOp a.eval o).run P w) else K undef (a.put o.dst undef)) : wpS P l.toArray Q ((3, i) :: rest) a w := by
  have ho : l.toArray[i]? = some o := (opAt_eq l i).trans ho'
  refine ⟨o, ho, ?_⟩
  cases hw : Region.wanted o (yielded l.toArray a.tmps) with
  | true =>
    simp only [hw, if_true] at h
    have h1 := h (fun v a' => (∀ w', True → pasOf (· = v) w' ((execOp a.eval o).run P w')) ∧ wpS P l.toArray Q rest a' w) (fun v a' h2 h3 => ⟨h2, h3⟩)
    generalize (execOp a.eval o).run P w = r at h1
    cases r with
    | ok n w' =>
      cases n <;> simp only [pasOf] at h1
      case value v => exact ⟨v, .inl ⟨hw, fun w' hr => pasOf_eq (h1.2.1 w' hr)⟩, h1.2.2⟩
    | halt x w' => exact h1.elim
  | false =>
    simp only [hw] at h
    have h1 := h (fun v a' => wpS P l.toArray Q rest a' w ∧ v = undef) (fun v a' h2 h3 => ⟨h3, (h2 w trivial).symm⟩)
    exact ⟨undef, .inr ⟨hw, rfl⟩, h1.1⟩
theorem sord_norm {rest : List (Nat × Nat)} {a : Act} {w : World} (h : ∀ K : Act → Prop, (∀ a', wpS P l.toArray Q rest a' w → K a') → K a) : wpS P l.toArray Q rest a w := h _ (fun _ h => h)
theorem sord_nil {a : Act} {w : World} (h : Q .normal a w) : wpS P l.toArray Q [] a w := h
theorem sord_act {i : Nat} {o : Oper} {rest : List (Nat × Nat)} {a : Act} {w : World} (ho' : opAt l i = some o)
    (h : ∀ K : Act → World → Prop, (∀ a' w', Grow none w w' ∧ wpS P l.toArray Q rest a' w' → K a' w') → if Region.wanted o (yielded l.toArray a.tmps) then o.wp P a w K (onlyN Q) else K (a.put o.dst undef) w) :
    wpS P l.toArray Q ((1, i) :: rest) a w := by
  have ho : l.toArray[i]? = some o := (opAt_eq l i).trans ho'
  have h1 := h _ (fun _ _ h => h)
  unfold wpS wpOp
  simp only [ho]
  split
  · rename_i hw; simp only [hw, if_true] at h1; exact .inl h1
  · rename_i hw; simp only [hw] at h1; exact h1
theorem sord_store {i : Nat} {o : Oper} {rest : List (Nat × Nat)} {a : Act} {w : World} (ho' : opAt l i = some o)
    (h : ∀ K : Act → World → Prop, (∀ a' w', wpS P l.toArray Q rest a' w' → K a' w') → if Region.wanted o (yielded l.toArray a.tmps) then o.wp P a w K (onlyN Q) else K (a.put o.dst undef) w) :
    wpS P l.toArray Q ((2, i) :: rest) a w := by
  have ho : l.toArray[i]? = some o := (opAt_eq l i).trans ho'
  have h1 := h _ (fun _ _ h => h)
  unfold wpS wpOp
  simp only [ho]
  split
  · rename_i hw; simp only [hw, if_true] at h1; exact .inl h1
  · rename_i hw; simp only [hw] at h1; exact h1
theorem sord_call {i : Nat} {o : Oper} {rest : List (Nat × Nat)} {a : Act} {w : World} (ho' : opAt l i = some o)
    (h : ∀ K : FuncId → Array Value → Prop, (∀ f args, Calls P f args w (fun e w' => ∃ v, e = .returned v ∧ Grow none w w' ∧ wpS P l.toArray Q rest (a.put o.dst v) w') → K f args) →
      Region.wanted o (yielded l.toArray a.tmps) = true ∧ callOf K w ((execOp a.eval o).run P w)) :
    wpS P l.toArray Q ((1, i) :: rest) a w := by
  have h1 := h (fun f args => Calls P f args w (fun e w' => ∃ v, e = .returned v ∧ Grow none w w' ∧ wpS P l.toArray Q rest (a.put o.dst v) w')) (fun _ _ h => h)
  refine sord_act ho' fun K hK => ?_
  rw [h1.1, if_pos rfl]
  unfold Oper.wp
  have h2 := h1.2
  generalize (execOp a.eval o).run P w = r at h2
  cases r with
  | ok n w' =>
    cases n <;> simp only [callOf] at h2 ⊢
    case enter f args =>
      obtain ⟨rfl, h2⟩ := h2
      simp only [Oper.upon]
      exact h2.mono fun e w'' ⟨v, he, hr, hk⟩ => by subst he; exact hK _ _ ⟨hr, hk⟩
  | halt x w' => exact h2.elim
end
end Go.Proofs.Ytphofjinncbaaaa
