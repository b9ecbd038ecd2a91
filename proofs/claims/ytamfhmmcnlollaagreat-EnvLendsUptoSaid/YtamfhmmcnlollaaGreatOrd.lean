/-
  A law for regions that draw their order: pure operations and loads of memory that nobody writes may be taken first; the others come up one by one. No program here.
-/
import Derived.Test.YtamfhmmcnlollaaGreatMem
import Derived.OrdersHeld
namespace Go.Proofs.YtamfhmmcnlollaaGreat
open Go.RowKit
set_option linter.unusedVariables false

section
variable {P : Program} {ops : Array Oper} {md : Region.Mode} {Q : Exit → Act → World → Prop} {R : World → World → Prop}

/-- the end alone -/
def onlyN (Q : Exit → Act → World → Prop) (x : Exit) (a : Act) (w : World) : Prop := x = .normal ∧ Q .normal a w

theorem oper_onlyN {o : Oper} {a : Act} {w : World} {K : Act → World → Prop} (h : o.wp P a w K (onlyN Q)) : o.wp P a w K Q := by
  unfold Oper.wp at *
  generalize (execOp a.eval o).run P w = r at *
  cases r with
  | ok n w' =>
    cases n <;> simp only [Oper.upon] at h ⊢
    case enter f args =>
      refine Calls.mono h fun e w'' he => ?_
      cases e with
      | returned u => exact he
      | panicked c => exact absurd he.1 (by simp)
      | outgrown => obtain ⟨_, _, hh, _⟩ := he; cases hh
    all_goals exact h
  | halt x w' =>
    cases x <;> simp only [Oper.upon] at h ⊢
    case panic u => exact absurd h.1 (by simp)
theorem wpOp_onlyN {i : Nat} {a : Act} {w : World} {K : Act → World → Prop} (h : wpOp P ops (onlyN Q) i K a w) : wpOp P ops Q i K a w := by
  unfold wpOp at *
  split
  · simpa [*] using h
  · rename_i o ho
    simp only [ho] at h
    split
    · rename_i hw
      simp only [hw, if_true] at h
      rcases h with h | ⟨_, _, _, hh, _⟩
      · exact .inl (oper_onlyN h)
      · cases hh
    · rename_i hw; simp only [hw] at h; exact h
theorem wpAny_onlyN : ∀ (fuel : Nat) (listed : Array Bool) (a : Act) (w : World), wpAny P md ops (onlyN Q) fuel listed a w → wpAny P md ops Q fuel listed a w
  | 0, _, _, _, h => ⟨h.1, h.2.2⟩
  | fuel + 1, _, _, _, h => ⟨fun h0 => (h.1 h0).2, fun i hi => wpOp_mono (fun a' w' h' => wpAny_onlyN fuel _ a' w' h') (wpOp_onlyN (h.2 i hi))⟩

/-- whatever order is picked, R holds from each world to the next -/
def wpAnyR (P : Program) (md : Region.Mode) (ops : Array Oper) (Q : Exit → Act → World → Prop) (R : World → World → Prop) : Nat → Array Bool → Act → World → Prop
  | 0, listed, a, w => Region.ready md ops listed = [] ∧ Q .normal a w
  | fuel + 1, listed, a, w =>
    (Region.ready md ops listed = [] → Q .normal a w) ∧
    ∀ i ∈ Region.ready md ops listed, wpOp P ops Q i (fun a' w' => R w w' ∧ wpAnyR P md ops Q R fuel (listed.setIfInBounds i true) a' w') a w
theorem wpAny_of_R : ∀ (fuel : Nat) (listed : Array Bool) (a : Act) (w : World), wpAnyR P md ops Q R fuel listed a w → wpAny P md ops Q fuel listed a w
  | 0, _, _, _, h => h
  | fuel + 1, _, _, _, h => ⟨h.1, fun i hi => wpOp_mono (fun a' w' h' => wpAny_of_R fuel _ a' w' h'.2) (h.2 i hi)⟩

theorem yieldsIf_weak {S S' : World → Prop} {o : Oper} {v : Value} {a : Act} (h : ∀ w, S' w → S w) (hy : YieldsIf P ops S o v a) : YieldsIf P ops S' o v a :=
  hy.imp (fun ⟨hw, hv⟩ => ⟨hw, fun w hs => hv w (h w hs)⟩) id

theorem wpAnyR_first (hrefl : ∀ w, R w w) (htr : ∀ a b c, R a b → R b c → R a c) {i : Nat} {oi : Oper} {v : Value} (hi : ops[i]? = some oi) (hsel : ∀ (j : Nat) (o : Oper) cs b, ops[j]? = some o → o.op ≠ .select cs b)
    (hQ : ∀ c a w, Q (.panic c) (a.put oi.dst v) w → Q (.panic c) a w) :
    ∀ (fuel : Nat) (listed : Array Bool) (a : Act) (w : World),
      (∀ j oj, ops[j]? = some oj → j ≠ i → listed.getD j true = false → (∀ e ∈ oj.after, Region.binds md e = true → e.on ≠ i) → oi.apart ops oj = true) →
      i ∈ Region.ready md ops listed → YieldsIf P ops (R w) oi v a →
      wpAnyR P md ops Q R fuel (listed.setIfInBounds i true) (a.put oi.dst v) w → wpAnyR P md ops Q R (fuel + 1) listed a w := by
  intro fuel
  induction fuel with
  | zero =>
    intro listed a w _ hr hy H
    refine ⟨fun h => (by rw [h] at hr; cases hr), fun j hj => ?_⟩
    by_cases hji : j = i
    · subst hji; exact hy.wpOp hi (hrefl w) ⟨hrefl w, H⟩
    · have := ready_mono hj hji
      rw [H.1] at this
      cases this
  | succ fuel ih =>
    intro listed a w hfree hr hy H
    refine ⟨fun h => (by rw [h] at hr; cases hr), fun j hj => ?_⟩
    by_cases hji : j = i
    · subst hji; exact hy.wpOp hi (hrefl w) ⟨hrefl w, H⟩
    · have h1 := H.2 j (ready_mono hj hji)
      obtain ⟨hjun, oj, hoj, hall⟩ := mem_ready.1 hj
      have hnot : ∀ e ∈ oj.after, Region.binds md e = true → e.on ≠ i := fun e he hb heq => by
        have h1 := hall e he hb
        have h0 := (mem_ready.1 hr).1
        rw [heq] at h1
        rcases Nat.lt_or_ge i listed.size with h' | h'
        · simp [h'] at h0 h1; rw [h0] at h1; cases h1
        · simp [Array.getElem?_eq_none h'] at h1
      have h2 := wpOp_putIf hoj (hfree j oj hoj hji hjun hnot) (fun cs b => hsel i oi cs b hi) (fun cs b => hsel j oj cs b hoj) hQ hy h1
      have hfree' : ∀ k ok, ops[k]? = some ok → k ≠ i → (listed.setIfInBounds j true).getD k true = false →
          (∀ e ∈ ok.after, Region.binds md e = true → e.on ≠ i) → oi.apart ops ok = true := fun k ok hk hki hun hno => by
        refine hfree k ok hk hki ?_ hno
        by_cases hjk : j = k
        · subst hjk; exact hjun
        · rw [getD_set_ne true hjk] at hun; exact hun
      refine wpOp_mono (fun a' w' h3 => ⟨h3.2.1, ih (listed.setIfInBounds j true) a' w' hfree' (ready_mono hr (Ne.symm hji)) (yieldsIf_weak (fun u hu => htr _ _ _ h3.2.1 hu) h3.1) ?_⟩) h2
      rw [Array.setIfInBounds_comm _ _ hji]
      exact h3.2.2

/-- an order: (true, i): number i is taken first; (false, i): number i alone may come up -/
def ordB (md : Region.Mode) (ops : Array Oper) : List (Bool × Nat) → Array Bool → Bool
  | [], listed => (Region.ready md ops listed).isEmpty
  | (true, i) :: rest, listed => (Region.ready md ops listed).contains i && Region.free md ops listed i && ordB md ops rest (listed.setIfInBounds i true)
  | (false, i) :: rest, listed => decide (Region.ready md ops listed = [i]) && ordB md ops rest (listed.setIfInBounds i true)

/-- the walk in that order -/
def wpOrd (P : Program) (ops : Array Oper) (Q : Exit → Act → World → Prop) (R : World → World → Prop) : List (Bool × Nat) → Act → World → Prop
  | [], a, w => Q .normal a w
  | (true, i) :: rest, a, w => ∃ o, ops[i]? = some o ∧ ∃ v, YieldsIf P ops (R w) o v a ∧ wpOrd P ops Q R rest (a.put o.dst v) w
  | (false, i) :: rest, a, w => wpOp P ops (onlyN Q) i (fun a' w' => R w w' ∧ wpOrd P ops Q R rest a' w') a w

theorem wpAnyR_of_ord (hrefl : ∀ w, R w w) (htr : ∀ a b c, R a b → R b c → R a c) (hs : Region.noSelect ops = true) :
    ∀ (l : List (Bool × Nat)) (listed : Array Bool) (a : Act) (w : World), ordB md ops l listed = true → wpOrd P ops Q R l a w → wpAnyR P md ops (onlyN Q) R l.length listed a w
  | [], listed, a, w, hB, h => ⟨by simpa [ordB] using hB, rfl, h⟩
  | (true, i) :: rest, listed, a, w, hB, h => by
    simp only [ordB, Bool.and_eq_true] at hB
    obtain ⟨⟨hr, hf⟩, hB'⟩ := hB
    obtain ⟨o, ho, v, hy, h'⟩ := h
    exact wpAnyR_first hrefl htr ho (Region.noSelect_spec hs) (fun c a w hh => absurd hh.1 (by simp)) rest.length listed a w (Region.free_spec ho hf) (by simpa using hr) hy
      (wpAnyR_of_ord hrefl htr hs rest _ _ _ hB' h')
  | (false, i) :: rest, listed, a, w, hB, h => by
    simp only [ordB, Bool.and_eq_true, decide_eq_true_eq] at hB
    refine ⟨fun h0 => (by rw [hB.1] at h0; cases h0), fun j hj => ?_⟩
    rw [hB.1] at hj
    have hji : j = i := by simpa using hj
    subst hji
    exact wpOp_mono (fun a' w' h' => ⟨h'.1, wpAnyR_of_ord hrefl htr hs rest _ _ _ hB.2 h'.2⟩) h

/-- is it an order of all of them? -/
def ordAll (md : Region.Mode) (ops : Array Oper) (l : List (Bool × Nat)) : Bool := Region.noSelect ops && decide (l.length = ops.size) && ordB md ops l (Array.replicate ops.size false)

theorem wp_region_ord {id : Nat} {a : Act} {w : World} (R : World → World → Prop) (l : List (Bool × Nat)) (hm : P.follows .mixedOrders = true) (hB : ordAll .any ops l = true) (hrefl : ∀ w, R w w) (htr : ∀ a b c, R a b → R b c → R a c)
    (h : wpOrd P ops Q R l a w.drew) : (Code.region id ops true).wp P Q a w := by
  simp only [ordAll, Bool.and_eq_true, decide_eq_true_eq] at hB
  obtain ⟨⟨hs, hl⟩, hB'⟩ := hB
  refine wp_region_any hm (wpAny_onlyN _ _ _ _ (wpAny_of_R (R := R) _ _ _ _ ?_))
  rw [← hl]
  exact wpAnyR_of_ord hrefl htr hs l _ a _ (by rw [hl]; exact hB') h

/-- only the row, and what is new, has turned -/
def Grow (row : Option Nat) (w w' : World) : Prop := w.grownBy w' row
theorem Grow.refl (row : Option Nat) (w : World) : Grow row w w := ⟨rfl, rfl, rfl, Nat.le_refl _, fun _ _ _ => rfl⟩
theorem Grow.trans (row : Option Nat) (a b c : World) (h : Grow row a b) (k : Grow row b c) : Grow row a c := World.grownBy.trans h k
theorem Grow.of_below {row : Option Nat} {w w' : World} (h : Below w.heap.size w w') : Grow row w w' := ⟨h.os, h.tape, h.output, h.size, fun i hi _ => h.block i hi⟩
theorem Grow.drew (row : Option Nat) (w : World) : Grow row w w.drew := ⟨rfl, rfl, rfl, Nat.le_refl _, fun _ _ _ => rfl⟩
theorem Grow.cell {row : Option Nat} {w w' : World} (h : Grow row w w') {p : Addr} {v : Value} (hc : w.cell? p = some v) (hne : some p.block ≠ row) : w'.cell? p = some v := World.grownBy.cell h hc hne
theorem Grow.set {g : Nat} {w : World} {p : Addr} (hp : p.block = g) (u : Value) : Grow (some g) w (w.setCell p u) :=
  ⟨rfl, rfl, rfl, by simp [World.setCell], fun i hi hne => Below.heap_setCell w p u i (by rintro rfl; exact hne (by rw [hp]))⟩
theorem wp_region_grow {id : Nat} {a : Act} {w : World} (row : Option Nat) (l : List (Bool × Nat)) (hm : P.follows .mixedOrders = true) (hB : ordAll .any ops l = true)
    (h : wpOrd P ops Q (Grow row) l a w.drew) : (Code.region id ops true).wp P Q a w := wp_region_ord (Grow row) l hm hB (Grow.refl row) (Grow.trans row) h

/-- what a pure operation gives -/
def pasOf (K : Value → Prop) (w : World) : Result Next → Prop
  | .ok (.value v) w' => w' = w ∧ K v
  | _ => False
theorem pasOf_value (K : Value → Prop) (w : World) (v : Value) : pasOf K w (.ok (.value v) w) = K v := by simp [pasOf]
/-- what a call enters -/
def callOf (K : FuncId → Array Value → Prop) (w : World) : Result Next → Prop
  | .ok (.enter f args) w' => w' = w ∧ K f args
  | _ => False
theorem callOf_enter (K : FuncId → Array Value → Prop) (w : World) (f : FuncId) (args : Array Value) : callOf K w (.ok (.enter f args) w) = K f args := by simp [callOf]
attribute [go_sem] pasOf_value callOf_enter

theorem pasOf_eq {v : Value} {w : World} {r : Result Next} (h : pasOf (· = v) w r) : r = .ok (.value v) w := by
  cases r with
  | ok n w' => cases n <;> simp only [pasOf] at h <;> first | exact h.elim | (obtain ⟨rfl, rfl⟩ := h; rfl)
  | halt x w' => exact h.elim

/-- the operation of that number -/
def opAt : List Oper → Nat → Option Oper
  | [], _ => none
  | o :: _, 0 => some o
  | _ :: l, i + 1 => opAt l i
theorem opAt_eq : ∀ (l : List Oper) (i : Nat), l.toArray[i]? = opAt l i
  | [], i => by simp [opAt]
  | o :: l, 0 => by simp [opAt]
  | o :: l, i + 1 => by have := opAt_eq l i; simpa [opAt] using this
end
section
variable {P : Program} {l : List Oper} {md : Region.Mode} {Q : Exit → Act → World → Prop} {R : World → World → Prop}
/-- pure, and alike in every later world -/
theorem ord_pas {i : Nat} {o : Oper} {rest : List (Bool × Nat)} {a : Act} {w : World} (ho' : opAt l i = some o)
    (h : ∀ K : Value → Act → Prop, (∀ v a', (∀ w', R w w' → if Region.wanted o (yielded l.toArray a.tmps) then pasOf (· = v) w' ((execOp a.eval o).run P w') else undef = v) → wpOrd P l.toArray Q R rest a' w → K v a') →
      if Region.wanted o (yielded l.toArray a.tmps) then pasOf (fun v => K v (a.put o.dst v)) w ((execOp a.eval o).run P w) else K undef (a.put o.dst undef)) (hrefl : R w w := by exact Grow.refl _ _) : wpOrd P l.toArray Q R ((true, i) :: rest) a w := by
  have ho : l.toArray[i]? = some o := (opAt_eq l i).trans ho'
  refine ⟨o, ho, ?_⟩
  cases hw : Region.wanted o (yielded l.toArray a.tmps) with
  | true =>
    simp only [hw, if_true] at h
    have h1 := h (fun v a' => (∀ w', R w w' → pasOf (· = v) w' ((execOp a.eval o).run P w')) ∧ wpOrd P l.toArray Q R rest a' w) (fun v a' h2 h3 => ⟨h2, h3⟩)
    generalize (execOp a.eval o).run P w = r at h1
    cases r with
    | ok n w' =>
      cases n <;> simp only [pasOf] at h1
      case value v => exact ⟨v, .inl ⟨hw, fun w' hr => pasOf_eq (h1.2.1 w' hr)⟩, h1.2.2⟩
    | halt x w' => exact h1.elim
  | false =>
    simp only [hw] at h
    have h1 := h (fun v a' => wpOrd P l.toArray Q R rest a' w ∧ v = undef) (fun v a' h2 h3 => ⟨h3, (h2 w hrefl).symm⟩)
    exact ⟨undef, .inr ⟨hw, rfl⟩, h1.1⟩

theorem ord_norm {rest : List (Bool × Nat)} {a : Act} {w : World} (h : ∀ K : Act → Prop, (∀ a', wpOrd P l.toArray Q R rest a' w → K a') → K a) : wpOrd P l.toArray Q R rest a w := h _ (fun _ h => h)
theorem ord_nil {a : Act} {w : World} (h : Q .normal a w) : wpOrd P l.toArray Q R [] a w := h

theorem ord_act {i : Nat} {o : Oper} {rest : List (Bool × Nat)} {a : Act} {w : World} (ho' : opAt l i = some o)
    (h : ∀ K : Act → World → Prop, (∀ a' w', R w w' ∧ wpOrd P l.toArray Q R rest a' w' → K a' w') → if Region.wanted o (yielded l.toArray a.tmps) then o.wp P a w K (onlyN Q) else K (a.put o.dst undef) w) :
    wpOrd P l.toArray Q R ((false, i) :: rest) a w := by
  have ho : l.toArray[i]? = some o := (opAt_eq l i).trans ho'
  have h1 := h _ (fun _ _ h => h)
  unfold wpOrd wpOp
  simp only [ho]
  split
  · rename_i hw; simp only [hw, if_true] at h1; exact .inl h1
  · rename_i hw; simp only [hw] at h1; exact h1

theorem ord_call {i : Nat} {o : Oper} {rest : List (Bool × Nat)} {a : Act} {w : World} (ho' : opAt l i = some o)
    (h : ∀ K : FuncId → Array Value → Prop, (∀ f args, Calls P f args w (fun e w' => ∃ v, e = .returned v ∧ R w w' ∧ wpOrd P l.toArray Q R rest (a.put o.dst v) w') → K f args) →
      Region.wanted o (yielded l.toArray a.tmps) = true ∧ callOf K w ((execOp a.eval o).run P w)) :
    wpOrd P l.toArray Q R ((false, i) :: rest) a w := by
  have h1 := h (fun f args => Calls P f args w (fun e w' => ∃ v, e = .returned v ∧ R w w' ∧ wpOrd P l.toArray Q R rest (a.put o.dst v) w')) (fun _ _ h => h)
  refine ord_act ho' fun K hK => ?_
  rw [h1.1, if_pos rfl]
  unfold Oper.wp
  have h2 := h1.2
  generalize (execOp a.eval o).run P w = r at h2
  cases r with
  | ok n w' =>
    cases n <;> simp only [callOf] at h2 ⊢
    case enter f args =>
      obtain ⟨rfl, h2⟩ := h2
      simp only [Oper.upon]
      exact h2.mono fun e w'' ⟨v, he, hr, hk⟩ => by subst he; exact hK _ _ ⟨hr, hk⟩
  | halt x w' => exact h2.elim
end
end Go.Proofs.YtamfhmmcnlollaaGreat
