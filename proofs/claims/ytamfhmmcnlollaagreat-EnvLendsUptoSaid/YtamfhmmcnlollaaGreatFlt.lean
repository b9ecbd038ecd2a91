/-
  A law for regions that draw their order and make memory beside calls: what makes memory floats: it may be run at any time between where it can come up and where it is wanted. No program here.
-/
import Derived.Test.YtamfhmmcnlollaaGreatOrd
import Derived.ArgAppend
namespace Go.Proofs.YtamfhmmcnlollaaGreat
open Go.RowKit
set_option linter.unusedVariables false

section
variable {P : Program} {ops : Array Oper} {md : Region.Mode} {Q : Exit → Act → World → Prop} {R : World → World → Prop}

/-- a value more in a temporary that the operation doesn't look at -/
theorem wpOp_fwd {j : Nat} {oj : Oper} {d : Option Tmp} {v : Value} (hj : ops[j]? = some oj) (h1 : ∀ x, d = some x → x ∉ oj.looksAt ops) (h2 : ∀ x, d = some x → oj.dst ≠ some x)
    (hsj : ∀ cs b, oj.op ≠ .select cs b) {K : Act → World → Prop} {a : Act} {w : World} (h : wpOp P ops (onlyN Q) j K a w) :
    wpOp P ops (onlyN Q) j (fun a' w' => ∃ a'', a' = a''.put d v ∧ K a'' w') (a.put d v) w := by
  unfold wpOp at *
  simp only [hj] at *
  rw [wanted_put oj a d v h1]
  split
  · rename_i hw
    simp only [hw, if_true] at h
    rcases h with h | ⟨_, _, _, hh, _⟩
    case inr => cases hh
    refine .inl ?_
    unfold Oper.wp at *
    rw [execOp_put oj hsj a d v h1]
    generalize (execOp a.eval oj).run P w = r at *
    cases r with
    | ok n w' =>
      cases n <;> simp only [Oper.upon] at h ⊢
      case value u => exact ⟨_, (Act.put_comm a v u h2), h⟩
      case skip => exact ⟨_, (Act.put_comm a v undef h2), h⟩
      case defer e =>
        exact ⟨_, (congrArg (fun z => Act.put z oj.dst undef) (Act.put_defers a d v e)).trans (Act.put_comm _ v undef h2), h⟩
      case enter f args =>
        refine Calls.mono h fun e w'' he => ?_
        cases e with
        | returned u => exact ⟨_, (Act.put_comm a v u h2), he⟩
        | panicked c => exact absurd he.1 (by simp)
        | outgrown => obtain ⟨_, _, hh, _⟩ := he; cases hh
      case row row args => exact Rows.mono h fun u w'' he => ⟨_, (Act.put_comm a v u h2), he⟩
    | halt x w' =>
      cases x <;> simp only [Oper.upon] at h ⊢
      case panic u => exact absurd h.1 (by simp)
  · rename_i hw
    simp only [hw] at h
    exact ⟨_, (Act.put_comm a v undef h2), h⟩

/-- where number i leaves its value -/
def dstOf (ops : Array Oper) (i : Nat) : Option Tmp := (ops[i]?).bind (·.dst)
/-- neither looks at what the other leaves, and they leave it in two places -/
def apt (ops : Array Oper) (i j : Nat) : Bool :=
  match ops[i]?, ops[j]? with
  | some x, some y => x.apart ops y && y.apart ops x
  | _, _ => false
abbrev Pend := List (Nat × Option Value)
def lstP : Pend → Array Bool → Array Bool
  | [], L => L
  | (i, some _) :: E, L => (lstP E L).setIfInBounds i true
  | (_, none) :: E, L => lstP E L
def putP (ops : Array Oper) : Pend → Act → Act
  | [], a => a
  | (i, some v) :: E, a => (putP ops E a).put (dstOf ops i) v
  | (_, none) :: E, a => putP ops E a
def allP : List Nat → Array Bool → Array Bool
  | [], L => L
  | i :: E, L => (allP E L).setIfInBounds i true
def somes : Pend → Nat
  | [] => 0
  | (_, some _) :: E => somes E + 1
  | (_, none) :: E => somes E
theorem somes_le : ∀ E : Pend, somes E ≤ E.length
  | [] => Nat.le_refl _
  | (_, some _) :: E => Nat.succ_le_succ (somes_le E)
  | (_, none) :: E => Nat.le_succ_of_le (somes_le E)

/-- the block that a value leads to -/
def vb : Value → Option Nat
  | .pointer (some a) => some a.block
  | .slice (some a) _ _ => some a.block
  | _ => none
/-- two values lead to two blocks -/
def Ap (u v : Value) : Prop := ∀ p q, vb u = some p → vb v = some q → p ≠ q
theorem Ap.symm {u v : Value} (h : Ap u v) : Ap v u := fun p q hp hq e => h q p hq hp e.symm

/-- kinds: 0 taken first (pure), 1 alone, 2 may be run from here on (a float), 3 alone while no float is open, else (4) has been run (the float's value is wanted). R1: what floats and what is done beside them keep; R: what all keep -/
def wpF (P : Program) (ops : Array Oper) (Q : Exit → Act → World → Prop) (R R1 : World → World → Prop) : List (Nat × Nat) → (Nat → Value → World → Prop) → Act → World → Prop
  | [], _, a, w => Q .normal a w
  | (0, i) :: rest, G, a, w => ∃ o, ops[i]? = some o ∧ ∃ v, YieldsIf P ops (R w) o v a ∧ wpF P ops Q R R1 rest G (a.put o.dst v) w
  | (1, i) :: rest, G, a, w => ∀ w1, R1 w w1 → wpOp P ops (onlyN Q) i (fun a' w' => R1 w1 w' ∧ wpF P ops Q R R1 rest G a' w') a w1
  | (2, i) :: rest, G, a, w => ∃ o, ops[i]? = some o ∧ ∃ F : Value → World → Prop, (∀ v w w', F v w → R1 w w' → F v w') ∧
      (Region.wanted o (yielded ops a.tmps) = true ∧ ∀ w1, R1 w w1 → ∃ v w2, (execOp a.eval o).run P w1 = .ok (.value v) w2 ∧ R1 w1 w2 ∧ F v w2 ∧ ∀ p, vb v = some p → w1.heap.size ≤ p ∧ p < w2.heap.size) ∧ wpF P ops Q R R1 rest (fun j => if j = i then F else G j) a w
  | (3, i) :: rest, G, a, w => wpOp P ops (onlyN Q) i (fun a' w' => R w w' ∧ wpF P ops Q R R1 rest G a' w') a w
  | (_, i) :: rest, G, a, w => ∀ v w1, R1 w w1 → G i v w1 → wpF P ops Q R R1 rest (fun j u x => G j u x ∧ Ap u v) (a.put (dstOf ops i) v) w1

/-- is it an order? (pend: the floats that may have been run) -/
def okF (md : Region.Mode) (ops : Array Oper) : List (Nat × Nat) → List Nat → Array Bool → Bool
  | [], pend, L => pend.isEmpty && (Region.ready md ops L).isEmpty
  | (0, i) :: rest, pend, L => (Region.ready md ops L).contains i && Region.free md ops L i && pend.all (fun f => apt ops i f && f != i) && okF md ops rest pend (L.setIfInBounds i true)
  | (1, k) :: rest, pend, L => (Region.ready md ops L).contains k && (Region.ready md ops (allP pend L)).all (· == k) && pend.all (fun f => apt ops k f && f != k) && okF md ops rest pend (L.setIfInBounds k true)
  | (2, i) :: rest, pend, L => (Region.ready md ops L).contains i && pend.all (fun f => apt ops i f && f != i) && okF md ops rest (i :: pend) L
  | (3, k) :: rest, pend, L => pend.isEmpty && (Region.ready md ops L).contains k && (Region.ready md ops L).all (· == k) && okF md ops rest pend (L.setIfInBounds k true)
  | (_, i) :: rest, pend, L => pend.contains i && (Region.ready md ops (allP (pend.erase i) L)).all (· == i) && okF md ops rest (pend.erase i) (L.setIfInBounds i true)
/-- how many come up -/
def reals : List (Nat × Nat) → Nat
  | [] => 0
  | (2, _) :: rest => reals rest
  | _ :: rest => reals rest + 1

theorem apt_spec {i j : Nat} (h : apt ops i j = true) : ∃ x y, ops[i]? = some x ∧ ops[j]? = some y ∧
    (∀ d, dstOf ops j = some d → d ∉ x.looksAt ops) ∧ (∀ d, dstOf ops i = some d → d ∉ y.looksAt ops) ∧ (∀ d, dstOf ops j = some d → x.dst ≠ some d) ∧ (∀ d, dstOf ops i = some d → dstOf ops j ≠ some d) := by
  unfold apt at h
  cases hi : ops[i]? with
  | none => simp [hi] at h
  | some x =>
    cases hj : ops[j]? with
    | none => simp [hi, hj] at h
    | some y =>
      simp only [hi, hj, Bool.and_eq_true] at h
      obtain ⟨a1, a2, a3⟩ := Oper.apart_spec h.1
      obtain ⟨b1, b2, b3⟩ := Oper.apart_spec h.2
      exact ⟨x, y, rfl, rfl, by simpa [dstOf, hj] using a3, by simpa [dstOf, hi] using a1, by simpa [dstOf, hj] using b2, by simpa [dstOf, hi, hj] using a2⟩
theorem apt_symm {i j : Nat} (h : apt ops i j = true) : apt ops j i = true := by
  unfold apt at *
  cases hi : ops[i]? <;> cases hj : ops[j]? <;> simp_all

def keys (E : Pend) : List Nat := E.map (·.1)
theorem keys_app (E1 E2 : Pend) (i : Nat) (v : Option Value) : keys (E1 ++ (i, v) :: E2) = keys E1 ++ i :: keys E2 := by simp [keys]

theorem putP_put {d : Option Tmp} {v : Value} : ∀ (E : Pend) (a : Act), (∀ f ∈ keys E, ∀ x, d = some x → dstOf ops f ≠ some x) → putP ops E (a.put d v) = (putP ops E a).put d v
  | [], a, _ => rfl
  | (i, none) :: E, a, h => putP_put E a (fun f hf => h f (by simp [keys] at hf ⊢; exact .inr hf))
  | (i, some u) :: E, a, h => by
    show (putP ops E (a.put d v)).put _ _ = ((putP ops E a).put _ _).put _ _
    rw [putP_put E a (fun f hf => h f (by simp [keys] at hf ⊢; exact .inr hf))]
    exact Act.put_comm _ v u (h i (by simp [keys]))
theorem putP_app {i : Nat} {v : Value} : ∀ (E1 E2 : Pend) (a : Act), (∀ f ∈ keys E1, ∀ x, dstOf ops i = some x → dstOf ops f ≠ some x) → putP ops (E1 ++ (i, some v) :: E2) a = (putP ops (E1 ++ E2) a).put (dstOf ops i) v
  | [], E2, a, _ => rfl
  | (j, none) :: E1, E2, a, h => putP_app E1 E2 a (fun f hf => h f (by simp [keys] at hf ⊢; exact .inr hf))
  | (j, some u) :: E1, E2, a, h => by
    show (putP ops (E1 ++ (i, some v) :: E2) a).put _ _ = ((putP ops (E1 ++ E2) a).put _ _).put _ _
    rw [putP_app E1 E2 a (fun f hf => h f (by simp [keys] at hf ⊢; exact .inr hf))]
    exact Act.put_comm _ v u (h j (by simp [keys]))
theorem putP_none {i : Nat} : ∀ (E1 E2 : Pend) (a : Act), putP ops (E1 ++ (i, none) :: E2) a = putP ops (E1 ++ E2) a
  | [], E2, a => rfl
  | (j, none) :: E1, E2, a => putP_none E1 E2 a
  | (j, some u) :: E1, E2, a => by
    show (putP ops (E1 ++ (i, none) :: E2) a).put _ _ = (putP ops (E1 ++ E2) a).put _ _
    rw [putP_none E1 E2 a]
theorem set_comm' (L : Array Bool) (i j : Nat) : (L.setIfInBounds i true).setIfInBounds j true = (L.setIfInBounds j true).setIfInBounds i true := by
  by_cases h : i = j
  · subst h; rfl
  · exact Array.setIfInBounds_comm _ _ h
theorem lstP_set {i : Nat} : ∀ (E : Pend) (L : Array Bool), lstP E (L.setIfInBounds i true) = (lstP E L).setIfInBounds i true
  | [], L => rfl
  | (j, none) :: E, L => lstP_set E L
  | (j, some u) :: E, L => by
    show (lstP E _).setIfInBounds _ _ = ((lstP E L).setIfInBounds _ _).setIfInBounds _ _
    rw [lstP_set E L, set_comm']
theorem lstP_app {i : Nat} {v : Value} : ∀ (E1 E2 : Pend) (L : Array Bool), lstP (E1 ++ (i, some v) :: E2) L = (lstP (E1 ++ E2) L).setIfInBounds i true
  | [], E2, L => rfl
  | (j, none) :: E1, E2, L => lstP_app E1 E2 L
  | (j, some u) :: E1, E2, L => by
    show (lstP (E1 ++ (i, some v) :: E2) L).setIfInBounds _ _ = ((lstP (E1 ++ E2) L).setIfInBounds _ _).setIfInBounds _ _
    rw [lstP_app E1 E2 L, set_comm']
theorem lstP_none {i : Nat} : ∀ (E1 E2 : Pend) (L : Array Bool), lstP (E1 ++ (i, none) :: E2) L = lstP (E1 ++ E2) L
  | [], E2, L => rfl
  | (j, none) :: E1, E2, L => lstP_none E1 E2 L
  | (j, some u) :: E1, E2, L => by
    show (lstP (E1 ++ (i, none) :: E2) L).setIfInBounds _ _ = (lstP (E1 ++ E2) L).setIfInBounds _ _
    rw [lstP_none E1 E2 L]
theorem getD_set_true' {L : Array Bool} {i j : Nat} (h : (L.setIfInBounds i true).getD j true = false) : L.getD j true = false := by
  by_cases hij : i = j
  · subst hij
    exfalso
    rcases Nat.lt_or_ge i L.size with h' | h'
    · simp [h'] at h
    · simp at h
      try omega
  · rwa [getD_set_ne true hij] at h
theorem getD_set_or {L : Array Bool} {i j : Nat} (h : (L.setIfInBounds i true).getD j false = true) : (i = j ∧ j < L.size) ∨ L.getD j false = true := by
  by_cases hij : i = j
  · subst hij
    rcases Nat.lt_or_ge i L.size with h' | h'
    · exact .inl ⟨rfl, h'⟩
    · simp at h; omega
  · rw [getD_set_ne false hij] at h; exact .inr h
theorem lstP_un : ∀ (E : Pend) (L : Array Bool) (j : Nat), (lstP E L).getD j true = false → L.getD j true = false
  | [], L, j, h => h
  | (i, none) :: E, L, j, h => lstP_un E L j h
  | (i, some u) :: E, L, j, h => lstP_un E L j (getD_set_true' h)
theorem lstP_size : ∀ (E : Pend) (L : Array Bool), (lstP E L).size = L.size
  | [], L => rfl
  | (i, none) :: E, L => lstP_size E L
  | (i, some u) :: E, L => by show ((lstP E L).setIfInBounds _ _).size = _; rw [Array.size_setIfInBounds, lstP_size E L]
theorem allP_size : ∀ (S : List Nat) (L : Array Bool), (allP S L).size = L.size
  | [], L => rfl
  | i :: S, L => by show ((allP S L).setIfInBounds _ _).size = _; rw [Array.size_setIfInBounds, allP_size S L]
theorem lstP_yes : ∀ (E : Pend) (L : Array Bool) (j : Nat), (lstP E L).getD j false = true → ((∃ v, (j, some v) ∈ E) ∧ j < L.size) ∨ L.getD j false = true
  | [], L, j, h => .inr h
  | (i, none) :: E, L, j, h => (lstP_yes E L j h).imp (fun ⟨⟨v, hv⟩, h⟩ => ⟨⟨v, by simp [hv]⟩, h⟩) id
  | (i, some u) :: E, L, j, h => by
    rcases getD_set_or h with ⟨rfl, h⟩ | h
    · exact .inl ⟨⟨u, by simp⟩, by rw [lstP_size] at h; exact h⟩
    · exact (lstP_yes E L j h).imp (fun ⟨⟨v, hv⟩, h⟩ => ⟨⟨v, by simp [hv]⟩, h⟩) id
theorem lstP_mono : ∀ (E : Pend) (L : Array Bool) (j : Nat), L.getD j false = true → (lstP E L).getD j false = true
  | [], L, j, h => h
  | (i, none) :: E, L, j, h => lstP_mono E L j h
  | (i, some u) :: E, L, j, h => getD_set_true (lstP_mono E L j h)
theorem lstP_un' : ∀ (E : Pend) (L : Array Bool) (j : Nat), j ∉ keys E → L.getD j true = false → (lstP E L).getD j true = false
  | [], L, j, _, h => h
  | (i, none) :: E, L, j, hn, h => lstP_un' E L j (fun hj => hn (by simp [keys] at hj ⊢; exact .inr hj)) h
  | (i, some u) :: E, L, j, hn, h => by
    show ((lstP E L).setIfInBounds i true).getD j true = false
    rw [getD_set_ne true (fun e => hn (by simp [keys, e]))]
    exact lstP_un' E L j (fun hj => hn (by simp [keys] at hj ⊢; exact .inr hj)) h
theorem allP_un : ∀ (S : List Nat) (L : Array Bool) (j : Nat), j ∉ S → L.getD j true = false → (allP S L).getD j true = false
  | [], L, j, _, h => h
  | i :: S, L, j, hn, h => by
    show ((allP S L).setIfInBounds i true).getD j true = false
    rw [getD_set_ne true (fun e => hn (by simp [e]))]
    exact allP_un S L j (fun hj => hn (by simp [hj])) h
theorem allP_mono : ∀ (S : List Nat) (L : Array Bool) (j : Nat), L.getD j false = true → (allP S L).getD j false = true
  | [], L, j, h => h
  | i :: S, L, j, h => getD_set_true (allP_mono S L j h)
theorem allP_yes : ∀ (S : List Nat) (L : Array Bool) (j : Nat), j ∈ S → j < L.size → (allP S L).getD j false = true
  | i :: S, L, j, h, hl => by
    show ((allP S L).setIfInBounds i true).getD j false = true
    by_cases e : i = j
    · subst e
      have := allP_size S L
      simp [this, hl]
    · rw [getD_set_ne false e]
      exact allP_yes S L j (by simpa [Ne.symm e] using h) hl

/-- what may come up, may if all the floats have been run -/
theorem ready_all {E : Pend} {L : Array Bool} {S : List Nat} {x : Nat} (hS : ∀ j v, (j, some v) ∈ E → j ∈ S) (h : x ∈ Region.ready md ops (lstP E L)) (hx : x ∉ S) : x ∈ Region.ready md ops (allP S L) := by
  rw [mem_ready] at *
  obtain ⟨h0, o, ho, hall⟩ := h
  refine ⟨allP_un S L x hx (lstP_un E L x h0), o, ho, fun e he hb => ?_⟩
  rcases lstP_yes E L _ (hall e he hb) with ⟨⟨v, hv⟩, hl⟩ | h1
  · exact allP_yes S L _ (hS _ _ hv) hl
  · exact allP_mono S L _ h1
theorem ready_up {E : Pend} {L : Array Bool} {k : Nat} (h : k ∈ Region.ready md ops L) (hk : k ∉ keys E) : k ∈ Region.ready md ops (lstP E L) := by
  rw [mem_ready] at *
  obtain ⟨h0, o, ho, hall⟩ := h
  exact ⟨lstP_un' E L k hk h0, o, ho, fun e he hb => lstP_mono E L _ (hall e he hb)⟩
theorem free_up {E : Pend} {L : Array Bool} {i : Nat} (h : Region.free md ops L i = true) : Region.free md ops (lstP E L) i = true := by
  unfold Region.free at *
  cases hi : ops[i]? with
  | none => simp [hi] at h
  | some oi =>
    simp only [hi, List.all_eq_true, List.mem_range] at h ⊢
    intro j hj
    have h1 := h j hj
    cases hun : (lstP E L).getD j true with
    | true => simp
    | false =>
      rw [lstP_un E L j hun] at h1
      exact h1

theorem exec_putP {o : Oper} (hs : ∀ cs b, o.op ≠ .select cs b) : ∀ (E : Pend) (a : Act), (∀ f ∈ keys E, ∀ x, dstOf ops f = some x → x ∉ o.looksAt ops) →
    execOp (putP ops E a).eval o = execOp a.eval o ∧ Region.wanted o (yielded ops (putP ops E a).tmps) = Region.wanted o (yielded ops a.tmps)
  | [], a, _ => ⟨rfl, rfl⟩
  | (i, none) :: E, a, h => exec_putP hs E a (fun f hf => h f (by simp [keys] at hf ⊢; exact .inr hf))
  | (i, some u) :: E, a, h => by
    obtain ⟨h1, h2⟩ := exec_putP hs E a (fun f hf => h f (by simp [keys] at hf ⊢; exact .inr hf))
    have h3 := h i (by simp [keys])
    exact ⟨(execOp_put o hs _ _ _ h3).trans h1, (wanted_put o _ _ _ h3).trans h2⟩

theorem fwdP {k : Nat} {ok : Oper} (hk : ops[k]? = some ok) (hs : ∀ cs b, ok.op ≠ .select cs b) {K : Act → World → Prop} {w : World} : ∀ (E : Pend) (a : Act), (∀ f ∈ keys E, apt ops k f = true) →
    wpOp P ops (onlyN Q) k K a w → wpOp P ops (onlyN Q) k (fun a' w' => ∃ a'', a' = putP ops E a'' ∧ K a'' w') (putP ops E a) w
  | [], a, _, h => wpOp_mono (fun a' w' hh => ⟨a', rfl, hh⟩) h
  | (i, none) :: E, a, hE, h => fwdP hk hs E a (fun f hf => hE f (by simp [keys] at hf ⊢; exact .inr hf)) h
  | (i, some u) :: E, a, hE, h => by
    have h1 := fwdP hk hs E a (fun f hf => hE f (by simp [keys] at hf ⊢; exact .inr hf)) h
    obtain ⟨x, y, hx, hy, a1, a2, a3, a4⟩ := apt_spec (hE i (by simp [keys]))
    rw [hk] at hx
    injection hx with hx
    subst hx
    refine wpOp_mono (fun a' w' ⟨a'', e, a3, e3, hK⟩ => ⟨a3, ?_, hK⟩) (wpOp_fwd (d := dstOf ops i) (v := u) hk a1 a3 hs h1)
    rw [e, e3]
    rfl

/-- a float runs -/
def Runs (P : Program) (ops : Array Oper) (R : World → World → Prop) (G : Nat → Value → World → Prop) (a : Act) (w : World) (i : Nat) : Prop :=
  ∃ o, ops[i]? = some o ∧ Region.wanted o (yielded ops a.tmps) = true ∧ ∀ w1, R w w1 → ∃ v w2, (execOp a.eval o).run P w1 = .ok (.value v) w2 ∧ R w1 w2 ∧ G i v w2 ∧ ∀ p, vb v = some p → w1.heap.size ≤ p ∧ p < w2.heap.size
theorem Runs.put {G : Nat → Value → World → Prop} {a : Act} {w : World} {i k : Nat} {v : Value} (h : Runs P ops R G a w i) (hs : Region.noSelect ops = true) (hap : apt ops k i = true) : Runs P ops R G (a.put (dstOf ops k) v) w i := by
  obtain ⟨o, ho, hw, hr⟩ := h
  obtain ⟨x, y, hx, hy, a1, a2, a3, a4⟩ := apt_spec hap
  rw [ho] at hy
  injection hy with hy
  subst hy
  refine ⟨o, ho, by rw [wanted_put o a _ v a2]; exact hw, fun w1 h1 => ?_⟩
  rw [execOp_put o (fun cs b => Region.noSelect_spec hs i o cs b ho) a _ v a2]
  exact hr w1 h1
theorem Runs.later {G : Nat → Value → World → Prop} {a : Act} {w w' : World} {i : Nat} (htr : ∀ a b c, R a b → R b c → R a c) (h : Runs P ops R G a w i) (hw : R w w') : Runs P ops R G a w' i := by
  obtain ⟨o, ho, hwa, hr⟩ := h
  exact ⟨o, ho, hwa, fun w1 h1 => hr w1 (htr _ _ _ hw h1)⟩
theorem Runs.wp {G : Nat → Value → World → Prop} {a : Act} {w w1 : World} {i : Nat} {K : Act → World → Prop} {E : Pend} (h : Runs P ops R G a w i) (hs : Region.noSelect ops = true) (hE : ∀ f ∈ keys E, f ≠ i → apt ops i f = true) (hi : ∀ v, (i, some v) ∉ E) (hR : R w w1)
    (hK : ∀ v w2, R w1 w2 → G i v w2 → (∀ p, vb v = some p → w1.heap.size ≤ p ∧ p < w2.heap.size) → K ((putP ops E a).put (dstOf ops i) v) w2) : wpOp P ops (onlyN Q) i K (putP ops E a) w1 := by
  obtain ⟨o, ho, hwa, hr⟩ := h
  obtain ⟨v, w2, hrun, h12, hG, hfr⟩ := hr w1 hR
  have key : ∀ (E : Pend) (a : Act), (∀ f ∈ keys E, f ≠ i → apt ops i f = true) → (∀ v, (i, some v) ∉ E) → execOp (putP ops E a).eval o = execOp a.eval o ∧ Region.wanted o (yielded ops (putP ops E a).tmps) = Region.wanted o (yielded ops a.tmps) := by
    intro E
    induction E with
    | nil => exact fun a _ _ => ⟨rfl, rfl⟩
    | cons x E ih =>
      intro a hE hi
      obtain ⟨j, u⟩ := x
      have ih' := ih a (fun f hf => hE f (by simp [keys] at hf ⊢; exact .inr hf)) (fun v hv => hi v (by simp [hv]))
      cases u with
      | none => exact ih'
      | some u =>
        have hj : j ≠ i := fun e => hi u (by simp [e])
        obtain ⟨x, y, hx, hy, a1, a2, a3, a4⟩ := apt_spec (hE j (by simp [keys]) hj)
        rw [ho] at hx
        injection hx with hx
        subst hx
        exact ⟨(execOp_put o (fun cs b => Region.noSelect_spec hs i o cs b ho) _ _ _ a1).trans ih'.1, (wanted_put o _ _ _ a1).trans ih'.2⟩
  obtain ⟨k1, k2⟩ := key E a hE hi
  unfold wpOp
  simp only [ho]
  rw [k2, hwa, if_pos rfl]
  refine .inl ?_
  unfold Oper.wp
  rw [k1, hrun]
  have := hK v w2 h12 hG hfr
  simpa [dstOf, ho, Oper.upon] using this

theorem pend_split {E : Pend} {i : Nat} (hi : i ∈ keys E) : ∃ E1 E2 v, E = E1 ++ (i, v) :: E2 := by
  obtain ⟨⟨j, v⟩, hm, rfl⟩ := List.mem_map.1 hi
  obtain ⟨E1, E2, rfl⟩ := List.append_of_mem hm
  exact ⟨E1, E2, v, rfl⟩
theorem erase_mid {l1 l2 : List Nat} {i : Nat} (h : i ∉ l1) : (l1 ++ i :: l2).erase i = l1 ++ l2 := by
  rw [List.erase_append_right _ h]
  simp

theorem wpOp_keep {k : Nat} {ok : Oper} (hk : ops[k]? = some ok) {Pr : Act → Prop} (h1 : ∀ a u, Pr a → Pr (a.put ok.dst u)) (h2 : ∀ (a : Act) d, Pr a → Pr { a with defers := d :: a.defers }) {K : Act → World → Prop} {a : Act} {w : World} (ha : Pr a)
    (h : wpOp P ops (onlyN Q) k K a w) : wpOp P ops (onlyN Q) k (fun a' w' => Pr a' ∧ K a' w') a w := by
  unfold wpOp at *
  simp only [hk] at *
  split
  · rename_i hw
    simp only [hw, if_true] at h
    rcases h with h | ⟨_, _, _, hh, _⟩
    case inr => cases hh
    refine .inl ?_
    unfold Oper.wp at *
    generalize (execOp a.eval ok).run P w = r at *
    cases r with
    | ok n w' =>
      cases n <;> simp only [Oper.upon] at h ⊢
      case value u => exact ⟨h1 _ _ ha, h⟩
      case skip => exact ⟨h1 _ _ ha, h⟩
      case defer e => exact ⟨h1 _ _ (h2 _ _ ha), h⟩
      case enter f args =>
        refine Calls.mono h fun e w'' he => ?_
        cases e with
        | returned u => exact ⟨h1 _ _ ha, he⟩
        | panicked c => exact absurd he.1 (by simp)
        | outgrown => obtain ⟨_, _, hh, _⟩ := he; cases hh
      case row row args => exact Rows.mono h fun u w'' he => ⟨h1 _ _ ha, he⟩
    | halt x w' =>
      cases x <;> simp only [Oper.upon] at h ⊢
      case panic u => exact absurd h.1 (by simp)
  · rename_i hw
    simp only [hw] at h
    exact ⟨h1 _ _ ha, h⟩

theorem okF_len : ∀ (l : List (Nat × Nat)) (pend : List Nat) (L : Array Bool), okF md ops l pend L = true → pend.length ≤ reals l
  | [], pend, L, h => by
    simp only [okF, Bool.and_eq_true, List.isEmpty_iff] at h
    simp [h.1]
  | (0, i) :: rest, pend, L, h => by
    simp only [okF, Bool.and_eq_true] at h
    have := okF_len rest pend _ h.2
    simp only [reals]; omega
  | (1, i) :: rest, pend, L, h => by
    simp only [okF, Bool.and_eq_true] at h
    have := okF_len rest pend _ h.2
    simp only [reals]; omega
  | (2, i) :: rest, pend, L, h => by
    simp only [okF, Bool.and_eq_true] at h
    have := okF_len rest (i :: pend) _ h.2
    simp only [reals]; simp only [List.length_cons] at this; omega
  | (3, i) :: rest, pend, L, h => by
    simp only [okF, Bool.and_eq_true] at h
    have := okF_len rest pend _ h.2
    simp only [reals]; omega
  | (n + 4, i) :: rest, pend, L, h => by
    simp only [okF, Bool.and_eq_true] at h
    have := okF_len rest (pend.erase i) _ h.2
    have h2 := List.length_erase_of_mem (a := i) (l := pend) (by simpa using h.1.1)
    have h3 : 0 < pend.length := List.length_pos_of_mem (by simpa using h.1.1 : i ∈ pend)
    simp only [reals]; omega
theorem somes_some {i : Nat} {v : Value} : ∀ (E1 E2 : Pend), somes (E1 ++ (i, some v) :: E2) = somes (E1 ++ E2) + 1
  | [], E2 => rfl
  | (j, none) :: E1, E2 => somes_some E1 E2
  | (j, some u) :: E1, E2 => congrArg (· + 1) (somes_some E1 E2)
theorem somes_none {i : Nat} : ∀ (E1 E2 : Pend), somes (E1 ++ (i, none) :: E2) = somes (E1 ++ E2)
  | [], E2 => rfl
  | (j, none) :: E1, E2 => somes_none E1 E2
  | (j, some u) :: E1, E2 => congrArg (· + 1) (somes_none E1 E2)

/-- all that holds between the order at hand and what has come up -/
structure Inv (P : Program) (md : Region.Mode) (ops : Array Oper) (Q : Exit → Act → World → Prop) (R R1 : World → World → Prop) (l : List (Nat × Nat)) (fuel : Nat) (L : Array Bool) (E : Pend) (G : Nat → Value → World → Prop) (a : Act) (w0 w : World) : Prop where
  num : fuel + somes E = reals l
  ok : okF md ops l (keys E) L = true
  later : R1 w0 w
  wp : wpF P ops Q R R1 l G a w0
  sync : somes E = 0 → w0 = w
  facts : ∀ i v, (i, some v) ∈ E → G i v w
  runs : ∀ i, (i, none) ∈ E → Runs P ops R1 G a w0 i
  stable : ∀ i ∈ keys E, ∀ v w w', G i v w → R1 w w' → G i v w'
  ready : ∀ i ∈ keys E, i ∈ Region.ready md ops L
  apart : (keys E).Pairwise (fun i j => apt ops i j = true ∧ i ≠ j)
  inb : ∀ i v, (i, some v) ∈ E → ∀ p, vb v = some p → p < w.heap.size
  dist : ∀ i v j u, (i, some v) ∈ E → (j, some u) ∈ E → i ≠ j → Ap v u

theorem pw_mid {E1 E2 : Pend} {i : Nat} {u : Option Value} (h : (keys (E1 ++ (i, u) :: E2)).Pairwise (fun i j => apt ops i j = true ∧ i ≠ j)) :
    (keys (E1 ++ E2)).Pairwise (fun i j => apt ops i j = true ∧ i ≠ j) ∧ i ∉ keys (E1 ++ E2) ∧ ∀ f ∈ keys (E1 ++ E2), apt ops i f = true := by
  rw [keys_app] at h
  have e : keys (E1 ++ E2) = keys E1 ++ keys E2 := by simp [keys]
  rw [e]
  rw [List.pairwise_append] at h
  obtain ⟨h1, h2, h3⟩ := h
  rw [List.pairwise_cons] at h2
  refine ⟨List.pairwise_append.2 ⟨h1, h2.2, fun a ha b hb => h3 a ha b (by simp [hb])⟩, ?_, ?_⟩
  · intro hi
    rcases List.mem_append.1 hi with hi | hi
    · exact (h3 i hi i (by simp)).2 rfl
    · exact (h2.1 i hi).2 rfl
  · intro f hf
    rcases List.mem_append.1 hf with hf | hf
    · exact apt_symm (h3 f hf i (by simp)).1
    · exact (h2.1 f hf).1
theorem keys_mem {E : Pend} {i : Nat} {u : Option Value} (h : (i, u) ∈ E) : i ∈ keys E := List.mem_map.2 ⟨_, h, rfl⟩
theorem mem_mid {E1 E2 : Pend} {x y : Nat × Option Value} (h : x ∈ E1 ++ y :: E2) : x = y ∨ x ∈ E1 ++ E2 := by
  simp at h ⊢
  rcases h with h | h | h
  · exact .inr (.inl h)
  · exact .inl h
  · exact .inr (.inr h)
theorem mem_mid' {E1 E2 : Pend} {x y : Nat × Option Value} (h : x ∈ E1 ++ E2) : x ∈ E1 ++ y :: E2 := by
  simp at h ⊢
  rcases h with h | h
  · exact .inl h
  · exact .inr (.inr h)
theorem un_none {E1 E2 : Pend} {L : Array Bool} {x : Nat} {v : Value} (h : x ∈ Region.ready md ops (lstP (E1 ++ (x, some v) :: E2) L)) : False := by
  rw [mem_ready, lstP_app] at h
  have h := h.1
  rcases Nat.lt_or_ge x (lstP (E1 ++ E2) L).size with h' | h'
  · simp [h'] at h
  · simp at h
theorem apt_dst {i f : Nat} (h : apt ops i f = true) : ∀ x, dstOf ops i = some x → dstOf ops f ≠ some x := by
  obtain ⟨x, y, hx, hy, a1, a2, a3, a4⟩ := apt_spec h
  exact a4

/-- a float runs early -/
theorem Inv.early {R1 : World → World → Prop} (hsz : ∀ a b, R1 a b → a.heap.size ≤ b.heap.size) (hrefl : ∀ w, R1 w w) (htr : ∀ a b c, R1 a b → R1 b c → R1 a c) {l : List (Nat × Nat)} {n : Nat} {L : Array Bool} {E1 E2 : Pend} {x : Nat} {G : Nat → Value → World → Prop} {a : Act} {w0 w w2 : World} {v : Value}
    (h : Inv P md ops Q R R1 l (n + 1) L (E1 ++ (x, none) :: E2) G a w0 w) (hR : R1 w w2) (hv : G x v w2) (hfr : ∀ p, vb v = some p → w.heap.size ≤ p ∧ p < w2.heap.size) : Inv P md ops Q R R1 l n L (E1 ++ (x, some v) :: E2) G a w0 w2 where
  num := by have := h.num; rw [somes_none] at this; rw [somes_some]; omega
  ok := by have := h.ok; rw [keys_app] at this ⊢; exact this
  later := htr _ _ _ h.later hR
  wp := h.wp
  sync := by intro h0; rw [somes_some] at h0; omega
  facts := by
    intro i u hi
    rcases mem_mid hi with e | hi
    · cases e; exact hv
    · exact h.stable i (keys_mem (mem_mid' hi)) _ _ _ (h.facts i u (mem_mid' hi)) hR
  runs := by
    intro i hi
    rcases mem_mid hi with e | hi
    · cases e
    · exact h.runs i (mem_mid' hi)
  stable := by have := h.stable; rw [keys_app] at this ⊢; exact this
  ready := by have := h.ready; rw [keys_app] at this ⊢; exact this
  apart := by have := h.apart; rw [keys_app] at this ⊢; exact this
  inb := by
    intro i u hi p hp
    rcases mem_mid hi with e | hi
    · cases e; exact (hfr p hp).2
    · exact Nat.lt_of_lt_of_le (h.inb i u (mem_mid' hi) p hp) (hsz _ _ hR)
  dist := by
    have key : ∀ j u, (j, some u) ∈ E1 ++ E2 → Ap v u := fun j u hj p q hp hq e => by
      have h1 := h.inb j u (mem_mid' hj) q hq
      have h2 := (hfr p hp).1
      omega
    intro i u j u' hi hj hne
    rcases mem_mid hi with e | hi
    · cases e
      rcases mem_mid hj with e | hj
      · cases e; exact absurd rfl hne
      · exact key j u' hj
    · rcases mem_mid hj with e | hj
      · cases e; exact (key i u hi).symm
      · exact h.dist i u j u' (mem_mid' hi) (mem_mid' hj) hne

/-- a float lands -/
theorem Inv.land {R1 : World → World → Prop} (hsz : ∀ a b, R1 a b → a.heap.size ≤ b.heap.size) (hrefl : ∀ w, R1 w w) (htr : ∀ a b c, R1 a b → R1 b c → R1 a c) (hs : Region.noSelect ops = true) {rest : List (Nat × Nat)} {n q i : Nat} {L : Array Bool} {E1 E2 : Pend} {u : Option Value} {G : Nat → Value → World → Prop} {a : Act} {w0 w w2 : World} {v : Value}
    (hm : n + somes (E1 ++ E2) = reals rest) {l : List (Nat × Nat)} {fuel : Nat} (h : Inv P md ops Q R R1 l fuel L (E1 ++ (i, u) :: E2) G a w0 w) (hR : R1 w w2) (hok : okF md ops rest ((keys (E1 ++ (i, u) :: E2)).erase i) (L.setIfInBounds i true) = true)
    (hvb : ∀ p, vb v = some p → p < w2.heap.size) (hAp : ∀ f x, (f, some x) ∈ E1 ++ E2 → Ap x v)
    (hw : wpF P ops Q R R1 rest (fun j u x => G j u x ∧ Ap u v) (a.put (dstOf ops i) v) w2) : Inv P md ops Q R R1 rest n (L.setIfInBounds i true) (E1 ++ E2) (fun j u x => G j u x ∧ Ap u v) (a.put (dstOf ops i) v) w2 w2 := by
  obtain ⟨p1, p2, p3⟩ := pw_mid h.apart
  have e : keys (E1 ++ E2) = keys E1 ++ keys E2 := by simp [keys]
  have hi1 : i ∉ keys E1 := fun hh => p2 (by rw [e]; simp [hh])
  have hsub : ∀ f ∈ keys (E1 ++ E2), f ∈ keys (E1 ++ (i, u) :: E2) := by
    intro f hf
    rw [keys_app]
    rw [e] at hf
    rcases List.mem_append.1 hf with hf | hf <;> simp [hf]
  refine ⟨hm, ?_, hrefl _, hw, fun _ => rfl, ?_, ?_, fun f hf u x y hg hr => ⟨h.stable f (hsub f hf) u x y hg.1 hr, hg.2⟩, ?_, p1, fun f x hf p hp => Nat.lt_of_lt_of_le (h.inb f x (mem_mid' hf) p hp) (hsz _ _ hR), fun f x j y hf hj hne => h.dist f x j y (mem_mid' hf) (mem_mid' hj) hne⟩
  · rw [keys_app, erase_mid hi1] at hok
    rw [e]; exact hok
  · intro f x hf
    exact ⟨h.stable f (hsub f (keys_mem hf)) _ _ _ (h.facts f x (mem_mid' hf)) hR, hAp f x hf⟩
  · intro f hf
    obtain ⟨o, ho, hwa, hr⟩ := ((h.runs f (mem_mid' hf)).put hs (p3 f (keys_mem hf)) (v := v)).later htr (htr _ _ _ h.later hR)
    refine ⟨o, ho, hwa, fun w1 h1 => ?_⟩
    obtain ⟨v', w', e1, e2, e3, e4⟩ := hr w1 h1
    refine ⟨v', w', e1, e2, ⟨e3, fun p q hp hq e => ?_⟩, e4⟩
    have h5 := (e4 p hp).1
    have h6 := hvb q hq
    have h7 := hsz _ _ h1
    omega
  · intro f hf
    exact ready_mono (h.ready f (hsub f hf)) (fun hh => p2 (hh ▸ hf))

theorem okF_sound {R1 : World → World → Prop} (hsz : ∀ a b, R1 a b → a.heap.size ≤ b.heap.size) (hreflR : ∀ w, R w w) (htrR : ∀ a b c, R a b → R b c → R a c) (hrefl : ∀ w, R1 w w) (htr : ∀ a b c, R1 a b → R1 b c → R1 a c) (h1R : ∀ a b, R1 a b → R a b) (hs : Region.noSelect ops = true) :
    ∀ (m : Nat) (l : List (Nat × Nat)) (fuel : Nat) (L : Array Bool) (E : Pend) (G : Nat → Value → World → Prop) (a : Act) (w0 w : World),
      fuel + l.length ≤ m → Inv P md ops Q R R1 l fuel L E G a w0 w → wpAnyR P md ops (onlyN Q) R fuel (lstP E L) (putP ops E a) w := by
  have nilcase : ∀ (fuel : Nat) (L : Array Bool) (E : Pend) (G : Nat → Value → World → Prop) (a : Act) (w0 w : World), Inv P md ops Q R R1 [] fuel L E G a w0 w → wpAnyR P md ops (onlyN Q) R fuel (lstP E L) (putP ops E a) w := by
    intro fuel L E G a w0 w h
    have hok := h.ok
    simp only [okF, Bool.and_eq_true, List.isEmpty_iff] at hok
    have hE : E = [] := by have := hok.1; simpa [keys] using this
    subst hE
    have e1 : fuel = 0 := by have := h.num; simp [reals, somes] at this; exact this
    subst e1
    have e2 : w0 = w := h.sync rfl
    subst e2
    exact ⟨hok.2, rfl, h.wp⟩
  intro m
  induction m with
  | zero =>
    intro l fuel L E G a w0 w hm h
    have e2 : l = [] := List.eq_nil_of_length_eq_zero (by omega)
    subst e2
    exact nilcase _ _ _ _ _ _ _ h
  | succ m ih =>
    intro l fuel L E G a w0 w hm h
    -- a float that comes up early
    have early : ∀ (n x : Nat), fuel = n + 1 → x ∈ keys E → x ∈ Region.ready md ops (lstP E L) →
        wpOp P ops (onlyN Q) x (fun a' w' => R w w' ∧ wpAnyR P md ops (onlyN Q) R n ((lstP E L).setIfInBounds x true) a' w') (putP ops E a) w := by
      intro n x hf hx hr
      subst hf
      obtain ⟨E1, E2, u, rfl⟩ := pend_split hx
      cases u with
      | some v => exact (un_none hr).elim
      | none =>
        obtain ⟨p1, p2, p3⟩ := pw_mid h.apart
        have e : keys (E1 ++ E2) = keys E1 ++ keys E2 := by simp [keys]
        refine (h.runs x (by simp)).wp hs ?_ ?_ h.later fun v w2 h12 hG hfr => ⟨h1R _ _ h12, ?_⟩
        · intro f hf hne
          refine p3 f ?_
          rw [keys_app] at hf
          rw [e]
          simp [hne] at hf
          simpa using hf
        · intro v hv
          rcases mem_mid hv with hh | hh
          · cases hh
          · exact p2 (keys_mem hh)
        · have := ih l n L _ G a w0 w2 (by omega) (h.early hsz hrefl htr h12 hG hfr)
          rw [lstP_app, putP_app _ _ _ (fun f hf => apt_dst (p3 f (by rw [e]; simp [hf])))] at this
          rw [lstP_none, putP_none]
          exact this
    have hlen := okF_len l (keys E) L h.ok
    have hse := somes_le E
    have hke : (keys E).length = E.length := by simp [keys]
    match l, h, hm, hlen with
    | [], h, _, _ => exact nilcase _ _ _ _ _ _ _ h
    | (0, i) :: rest, h, hm, hlen =>
      have hok := h.ok
      simp only [okF, Bool.and_eq_true] at hok
      obtain ⟨⟨⟨k1, k2⟩, k3⟩, k4⟩ := hok
      have hlen2 := okF_len rest (keys E) _ k4
      have hnum := h.num
      simp only [reals] at hnum
      obtain ⟨n, rfl⟩ : ∃ n, fuel = n + 1 := ⟨fuel - 1, by omega⟩
      obtain ⟨o, ho, v, hy, hrest⟩ := h.wp
      have hap : ∀ f ∈ keys E, apt ops i f = true ∧ f ≠ i := by
        intro f hf
        have := List.all_eq_true.1 k3 f hf
        simpa using this
      have hik : i ∉ keys E := fun hh => (hap i hh).2 rfl
      have hd : dstOf ops i = o.dst := by simp [dstOf, ho]
      have hex := exec_putP (fun cs b => Region.noSelect_spec hs i o cs b ho) E a (fun f hf x hx => by
        obtain ⟨x', y', hx', hy', a1, a2, a3, a4⟩ := apt_spec (hap f hf).1
        rw [ho] at hx'
        injection hx' with hx'
        subst hx'
        exact a1 x hx)
      refine wpAnyR_first hreflR htrR ho (Region.noSelect_spec hs) (fun c a w hh => absurd hh.1 (by simp)) n (lstP E L) (putP ops E a) w (Region.free_spec ho (free_up k2)) (ready_up (by simpa using k1) hik)
        (yieldsIf_weak (fun u hu => htrR _ _ _ (h1R _ _ h.later) hu) (hy.of_same hex.1 hex.2)) ?_
      have := ih rest n (L.setIfInBounds i true) E G (a.put o.dst v) w0 w (by simp at hm; omega) ⟨by omega, k4, h.later, hrest, h.sync, h.facts, fun f hf => by rw [← hd]; exact (h.runs f hf).put hs (hap f (keys_mem hf)).1, h.stable, fun f hf => ready_mono (h.ready f hf) (hap f hf).2, h.apart, h.inb, h.dist⟩
      rw [lstP_set, putP_put E a (fun f hf => by rw [← hd]; exact apt_dst (hap f hf).1)] at this
      exact this
    | (1, k) :: rest, h, hm, hlen =>
      have hok := h.ok
      simp only [okF, Bool.and_eq_true] at hok
      obtain ⟨⟨⟨k1, k2⟩, k3⟩, k4⟩ := hok
      have hlen2 := okF_len rest (keys E) _ k4
      have hnum := h.num
      simp only [reals] at hnum
      obtain ⟨n, rfl⟩ : ∃ n, fuel = n + 1 := ⟨fuel - 1, by omega⟩
      have hap : ∀ f ∈ keys E, apt ops k f = true ∧ f ≠ k := by
        intro f hf
        have := List.all_eq_true.1 k3 f hf
        simpa using this
      have hik : k ∉ keys E := fun hh => (hap k hh).2 rfl
      have hkr : k ∈ Region.ready md ops (lstP E L) := ready_up (by simpa using k1) hik
      refine ⟨(fun h0 => by rw [h0] at hkr; cases hkr), fun x hx => ?_⟩
      by_cases hxE : x ∈ keys E
      · exact early n x rfl hxE hx
      · have hxk : x = k := by
          have h1 := ready_all (S := keys E) (fun j v hj => keys_mem hj) hx hxE
          have h2 := List.all_eq_true.1 k2 x h1
          simpa using h2
        subst hxk
        obtain ⟨ok, hok', _⟩ := (mem_ready.1 hkr).2
        have h1 := h.wp w h.later
        have h2 := wpOp_keep (Pr := fun a' => ∀ i, (i, none) ∈ E → Runs P ops R1 G a' w0 i) hok' (fun a' u hh i hi => by
          have hd : dstOf ops x = ok.dst := by simp [dstOf, hok']
          rw [← hd]
          exact (hh i hi).put hs (hap i (keys_mem hi)).1) (fun a' d hh => hh) h.runs h1
        refine wpOp_mono (fun a' w' ⟨a'', e, hPr, hR, hW⟩ => ⟨h1R _ _ hR, ?_⟩) (fwdP hok' (fun cs b => Region.noSelect_spec hs x ok cs b hok') E a (fun f hf => (hap f hf).1) h2)
        have := ih rest n (L.setIfInBounds x true) E G a'' w' w' (by simp at hm; omega) ⟨by omega, k4, hrefl _, hW, fun _ => rfl, fun i u hi => h.stable i (keys_mem hi) _ _ _ (h.facts i u hi) hR, fun i hi => (hPr i hi).later htr (htr _ _ _ h.later hR), h.stable, fun f hf => ready_mono (h.ready f hf) (hap f hf).2, h.apart, fun i u hi p hp => Nat.lt_of_lt_of_le (h.inb i u hi p hp) (hsz _ _ hR), h.dist⟩
        rw [lstP_set] at this
        rw [e]
        exact this
    | (2, i) :: rest, h, hm, hlen =>
      have hok := h.ok
      simp only [okF, Bool.and_eq_true] at hok
      obtain ⟨⟨k1, k3⟩, k4⟩ := hok
      obtain ⟨o, ho, F, hst, ⟨hw, hr⟩, hrest⟩ := h.wp
      have hap : ∀ f ∈ keys E, apt ops i f = true ∧ f ≠ i := by
        intro f hf
        have := List.all_eq_true.1 k3 f hf
        simpa using this
      have hik : i ∉ keys E := fun hh => (hap i hh).2 rfl
      have hG : ∀ f ∈ keys E, (if f = i then F else G f) = G f := fun f hf => if_neg (hap f hf).2
      refine ih rest fuel L ((i, none) :: E) (fun j => if j = i then F else G j) a w0 w (by simp at hm; omega) ⟨h.num, k4, h.later, hrest, h.sync, ?_, ?_, ?_, ?_, ?_, fun j v hj => h.inb j v (by simpa using hj), fun j v k u hj hk => h.dist j v k u (by simpa using hj) (by simpa using hk)⟩
      · intro j v hj
        have hj' : (j, some v) ∈ E := by simpa using hj
        show (if j = i then F else G j) v w
        rw [hG j (keys_mem hj')]
        exact h.facts j v hj'
      · intro j hj
        rcases List.mem_cons.1 hj with e | hj
        · cases e
          refine ⟨o, ho, hw, fun w1 h1 => ?_⟩
          simpa using hr w1 h1
        · obtain ⟨o', ho', hw', hr'⟩ := h.runs j hj
          refine ⟨o', ho', hw', fun w1 h1 => ?_⟩
          show ∃ v w2, _ ∧ _ ∧ (if j = i then F else G j) v w2 ∧ _
          rw [hG j (keys_mem hj)]
          exact hr' w1 h1
      · intro j hj
        rcases List.mem_cons.1 hj with e | hj
        · subst e
          show ∀ v w w', (if j = j then F else G j) v w → _ → (if j = j then F else G j) v w'
          rw [if_pos rfl]
          exact hst
        · show ∀ v w w', (if j = i then F else G j) v w → _ → (if j = i then F else G j) v w'
          rw [hG j hj]
          exact h.stable j hj
      · intro j hj
        rcases List.mem_cons.1 hj with e | hj
        · subst e; simpa using k1
        · exact h.ready j hj
      · exact List.pairwise_cons.2 ⟨fun j hj => ⟨(hap j hj).1, fun e => (hap j hj).2 e.symm⟩, h.apart⟩
    | (3, k) :: rest, h, hm, hlen =>
      have hok := h.ok
      simp only [okF, Bool.and_eq_true, List.isEmpty_iff] at hok
      obtain ⟨⟨⟨k3, k1⟩, k2⟩, k4⟩ := hok
      have hE : E = [] := by simpa [keys] using k3
      subst hE
      have hnum := h.num
      simp only [reals, somes] at hnum
      obtain ⟨n, rfl⟩ : ∃ n, fuel = n + 1 := ⟨fuel - 1, by omega⟩
      have hw : w0 = w := h.sync rfl
      subst hw
      have hkr : k ∈ Region.ready md ops L := by simpa using k1
      refine ⟨(fun h0 => by have h0 : Region.ready md ops L = [] := h0; rw [h0] at hkr; cases hkr), fun x hx => ?_⟩
      have hxk : x = k := by
        have h2 := List.all_eq_true.1 k2 x hx
        simpa using h2
      subst hxk
      refine wpOp_mono (fun a' w' ⟨hR, hW⟩ => ⟨hR, ?_⟩) h.wp
      exact ih rest n (L.setIfInBounds x true) [] G a' w' w' (by simp at hm; omega) ⟨by simp only [somes]; omega, k4, hrefl _, hW, fun _ => rfl, by simp, by simp, by simp [keys], by simp [keys], by simp [keys], by simp, by simp⟩
    | (q + 4, i) :: rest, h, hm, hlen =>
      have hok := h.ok
      simp only [okF, Bool.and_eq_true] at hok
      obtain ⟨⟨k1, k2⟩, k4⟩ := hok
      have hik : i ∈ keys E := by simpa using k1
      have hnum := h.num
      simp only [reals] at hnum
      obtain ⟨E1, E2, u, rfl⟩ := pend_split hik
      obtain ⟨p1, p2, p3⟩ := pw_mid h.apart
      have e : keys (E1 ++ E2) = keys E1 ++ keys E2 := by simp [keys]
      have hput : ∀ v, putP ops (E1 ++ E2) (a.put (dstOf ops i) v) = (putP ops (E1 ++ E2) a).put (dstOf ops i) v := fun v => putP_put _ _ (fun f hf => apt_dst (p3 f hf))
      cases u with
      | some v =>
        have hne : ∀ f x, (f, some x) ∈ E1 ++ E2 → f ≠ i := fun f x hf hh => p2 (hh ▸ keys_mem hf)
        have := ih rest fuel (L.setIfInBounds i true) (E1 ++ E2) (fun j u x => G j u x ∧ Ap u v) (a.put (dstOf ops i) v) w w (by simp at hm; omega)
          (Inv.land (q := 0) hsz hrefl htr hs (by rw [somes_some] at hnum; omega) h (hrefl _) k4 (h.inb i v (by simp)) (fun f x hf => h.dist f x i v (mem_mid' hf) (by simp) (hne f x hf)) (h.wp v w h.later (h.facts i v (by simp))))
        rw [lstP_set, hput] at this
        rw [lstP_app, putP_app _ _ _ (fun f hf => apt_dst (p3 f (by rw [e]; simp [hf])))]
        exact this
      | none =>
        rw [somes_none] at hnum
        have hse2 := somes_le (E1 ++ E2)
        have hl3 : (E1 ++ E2).length ≤ reals rest := by
          have := okF_len rest _ _ k4
          rw [keys_app, erase_mid (fun hh => p2 (by rw [e]; simp [hh]))] at this
          simpa [keys] using this
        obtain ⟨n, rfl⟩ : ∃ n, fuel = n + 1 := ⟨fuel - 1, by omega⟩
        have hir : i ∈ Region.ready md ops (lstP (E1 ++ (i, none) :: E2) L) := by
          rw [lstP_none]
          exact ready_up (h.ready i hik) p2
        refine ⟨(fun h0 => by rw [h0] at hir; cases hir), fun x hx => ?_⟩
        by_cases hxE : x ∈ keys (E1 ++ (i, none) :: E2)
        · by_cases hxi : x = i
          · subst hxi
            refine (h.runs x (by simp)).wp hs ?_ ?_ h.later fun v w2 h12 hG hfr => ⟨h1R _ _ h12, ?_⟩
            · intro f hf hne
              refine p3 f ?_
              rw [keys_app] at hf
              rw [e]
              simp [hne] at hf
              simpa using hf
            · intro v hv
              rcases mem_mid hv with hh | hh
              · cases hh
              · exact p2 (keys_mem hh)
            · have := ih rest n (L.setIfInBounds x true) (E1 ++ E2) (fun j u y => G j u y ∧ Ap u v) (a.put (dstOf ops x) v) w2 w2 (by simp at hm; omega)
                (Inv.land (q := 0) hsz hrefl htr hs (by omega) h h12 k4 (fun p hp => (hfr p hp).2) (fun f y hf p q hp hq e => by have h1 := h.inb f y (mem_mid' hf) p hp; have h2 := (hfr q hq).1; omega) (h.wp v w2 (htr _ _ _ h.later h12) hG))
              rw [lstP_set, hput] at this
              rw [lstP_none, putP_none]
              exact this
          · exact early n x rfl hxE hx
        · exfalso
          have h1 := ready_all (S := (keys (E1 ++ (i, none) :: E2)).erase i) (fun j v hj => by
            rw [keys_app, erase_mid (fun hh => p2 (by rw [e]; simp [hh])), ← e]
            rcases mem_mid hj with hh | hh
            · cases hh
            · exact keys_mem hh) hx (fun hh => hxE (List.mem_of_mem_erase hh))
          have h2 := List.all_eq_true.1 k2 x h1
          have : x = i := by simpa using h2
          exact hxE (this ▸ hik)

/-- what was there before block B is kept -/
def KB (B : Nat) (w w' : World) : Prop := (w'.os = w.os ∧ w'.tape = w.tape ∧ w'.output = w.output) ∧ w.heap.size ≤ w'.heap.size ∧ ∀ i, i < B → i < w.heap.size → w'.heap[i]? = w.heap[i]?
theorem KB.refl (B : Nat) (w : World) : KB B w w := ⟨⟨rfl, rfl, rfl⟩, Nat.le_refl _, fun _ _ _ => rfl⟩
theorem KB.trans (B : Nat) (a b c : World) (h : KB B a b) (k : KB B b c) : KB B a c :=
  ⟨⟨k.1.1.trans h.1.1, k.1.2.1.trans h.1.2.1, k.1.2.2.trans h.1.2.2⟩, Nat.le_trans h.2.1 k.2.1, fun i hi hl => (k.2.2 i hi (Nat.lt_of_lt_of_le hl h.2.1)).trans (h.2.2 i hi hl)⟩
theorem KB.of_below {B : Nat} {w w' : World} (h : Below w.heap.size w w') : KB B w w' := ⟨⟨h.os, h.tape, h.output⟩, h.size, fun i _ hl => h.block i hl⟩
theorem KB.of_le {B B' : Nat} {w w' : World} (h : Below B' w w') (hB : B ≤ B') : KB B w w' := ⟨⟨h.os, h.tape, h.output⟩, h.size, fun i hi _ => h.block i (Nat.lt_of_lt_of_le hi hB)⟩
theorem KB.of_grow (B : Nat) (a b : World) (h : Grow none a b) : KB B a b := by
  obtain ⟨h1, h2, h3, h4, h5⟩ := h
  exact ⟨⟨h1, h2, h3⟩, h4, fun i _ hl => h5 i hl (by simp)⟩
theorem KB.cell {B : Nat} {w w' : World} (h : KB B w w') {p : Addr} (hp : p.block < B) (hl : p.block < w.heap.size) : w'.cell? p = w.cell? p := by
  have hb : Below (p.block + 1) w w' := ⟨h.1.1, h.1.2.1, h.1.2.2, h.2.1, fun i hi => h.2.2 i (by omega) (by omega)⟩
  exact hb.cell (Nat.lt_succ_self _)
theorem wp_region_fltR {id : Nat} {a : Act} {w : World} (R : World → World → Prop) (hreflR : ∀ w, R w w) (htrR : ∀ a b c, R a b → R b c → R a c) (h1R : ∀ a b, Grow none a b → R a b) (l : List (Nat × Nat)) (hm : P.follows .mixedOrders = true) (hB : (Region.noSelect ops && decide (reals l = ops.size) && okF .any ops l [] (Array.replicate ops.size false)) = true)
    (h : wpF P ops Q R (Grow none) l (fun _ _ _ => False) a w.drew) : (Code.region id ops true).wp P Q a w := by
  simp only [Bool.and_eq_true, decide_eq_true_eq] at hB
  obtain ⟨⟨hs, hl⟩, hok⟩ := hB
  refine wp_region_any hm (wpAny_onlyN _ _ _ _ (wpAny_of_R (R := R) _ _ _ _ ?_))
  rw [← hl]
  have := okF_sound (P := P) (md := .any) (ops := ops) (Q := Q) (R := R) (R1 := Grow none) (fun _ _ h => (by obtain ⟨_, _, _, h4, _⟩ := h; exact h4)) hreflR htrR (Grow.refl none) (Grow.trans none) h1R hs (reals l + l.length) l (reals l) (Array.replicate ops.size false) [] (fun _ _ _ => False) a w.drew w.drew (Nat.le_refl _)
    ⟨by simp [somes], hok, Grow.refl _ _, h, fun _ => rfl, by simp, by simp, by simp [keys], by simp [keys], by simp [keys], by simp, by simp⟩
  rw [hl] at this ⊢
  exact this
end

section
variable {P : Program} {l : List Oper} {md : Region.Mode} {Q : Exit → Act → World → Prop} {R R1 : World → World → Prop} {G : Nat → Value → World → Prop}
theorem Grow.below {w w' : World} (h : Grow none w w') : Below w.heap.size w w' := by
  obtain ⟨a, b, c, d, e⟩ := h
  exact ⟨a, b, c, d, fun i hi => e i hi (by simp)⟩
theorem flt_pas {i : Nat} {o : Oper} {rest : List (Nat × Nat)} {a : Act} {w : World} (ho' : opAt l i = some o)
    (h : ∀ K : Value → Act → Prop, (∀ v a', (∀ w', R w w' → if Region.wanted o (yielded l.toArray a.tmps) then pasOf (· = v) w' ((execOp a.eval o).run P w') else undef = v) → wpF P l.toArray Q R R1 rest G a' w → K v a') →
      if Region.wanted o (yielded l.toArray a.tmps) then pasOf (fun v => K v (a.put o.dst v)) w ((execOp a.eval o).run P w) else K undef (a.put o.dst undef)) (hrefl : R w w := by first | exact Grow.refl _ _ | exact KB.refl _ _) : wpF P l.toArray Q R R1 ((0, i) :: rest) G a w := by
  have ho : l.toArray[i]? = some o := (opAt_eq l i).trans ho'
  refine ⟨o, ho, ?_⟩
  cases hw : Region.wanted o (yielded l.toArray a.tmps) with
  | true =>
    simp only [hw, if_true] at h
    have h1 := h (fun v a' => (∀ w', R w w' → pasOf (· = v) w' ((execOp a.eval o).run P w')) ∧ wpF P l.toArray Q R R1 rest G a' w) (fun v a' h2 h3 => ⟨h2, h3⟩)
    generalize (execOp a.eval o).run P w = r at h1
    cases r with
    | ok n w' =>
      cases n <;> simp only [pasOf] at h1
      case value v => exact ⟨v, .inl ⟨hw, fun w' hr => pasOf_eq (h1.2.1 w' hr)⟩, h1.2.2⟩
    | halt x w' => exact h1.elim
  | false =>
    simp only [hw] at h
    have h1 := h (fun v a' => wpF P l.toArray Q R R1 rest G a' w ∧ v = undef) (fun v a' h2 h3 => ⟨h3, (h2 w hrefl).symm⟩)
    exact ⟨undef, .inr ⟨hw, rfl⟩, h1.1⟩
theorem flt_norm {rest : List (Nat × Nat)} {a : Act} {w : World} (h : ∀ K : Act → Prop, (∀ a', wpF P l.toArray Q R R1 rest G a' w → K a') → K a) : wpF P l.toArray Q R R1 rest G a w := h _ (fun _ h => h)
theorem flt_nil {a : Act} {w : World} (h : Q .normal a w) : wpF P l.toArray Q R R1 [] G a w := h
theorem flt_actX {i : Nat} {o : Oper} {rest : List (Nat × Nat)} {a : Act} {w : World} (ho' : opAt l i = some o)
    (h : ∀ K : Act → World → Prop, (∀ a' w', R w w' ∧ wpF P l.toArray Q R R1 rest G a' w' → K a' w') → if Region.wanted o (yielded l.toArray a.tmps) then o.wp P a w K (onlyN Q) else K (a.put o.dst undef) w) :
    wpF P l.toArray Q R R1 ((3, i) :: rest) G a w := by
  have ho : l.toArray[i]? = some o := (opAt_eq l i).trans ho'
  have h1 := h _ (fun _ _ h => h)
  unfold wpF wpOp
  simp only [ho]
  split
  · rename_i hw; simp only [hw, if_true] at h1; exact .inl h1
  · rename_i hw; simp only [hw] at h1; exact h1
theorem flt_callX {i : Nat} {o : Oper} {rest : List (Nat × Nat)} {a : Act} {w : World} (ho' : opAt l i = some o)
    (h : ∀ K : FuncId → Array Value → Prop, (∀ f args, Calls P f args w (fun e w' => ∃ v, e = .returned v ∧ R w w' ∧ wpF P l.toArray Q R R1 rest G (a.put o.dst v) w') → K f args) →
      Region.wanted o (yielded l.toArray a.tmps) = true ∧ callOf K w ((execOp a.eval o).run P w)) :
    wpF P l.toArray Q R R1 ((3, i) :: rest) G a w := by
  refine flt_actX ho' fun K hK => ?_
  have h1 := h (fun f args => Calls P f args w (fun e w' => ∃ v, e = .returned v ∧ R w w' ∧ wpF P l.toArray Q R R1 rest G (a.put o.dst v) w')) (fun _ _ h => h)
  rw [h1.1, if_pos rfl]
  unfold Oper.wp
  have h2 := h1.2
  generalize (execOp a.eval o).run P w = r at h2
  cases r with
  | ok n w' =>
    cases n <;> simp only [callOf] at h2 ⊢
    case enter f args =>
      obtain ⟨rfl, h2⟩ := h2
      simp only [Oper.upon]
      exact h2.mono fun e w'' ⟨v, he, hr, hk⟩ => by subst he; exact hK _ _ ⟨hr, hk⟩
  | halt x w' => exact h2.elim
/-- a new slice, wherever it lies -/
def FOwn (k : IntKind) (t : TypeId) (B n : Nat) (xs : List Nat) (v : Value) (w : World) : Prop := ∃ A, v = .slice A n n ∧ Own k t B w A n n xs
theorem FOwn.grow {k : IntKind} {t : TypeId} {B n : Nat} {xs : List Nat} {v : Value} {w w' : World} (h : FOwn k t B n xs v w) (hR : Grow none w w') : FOwn k t B n xs v w' := by
  obtain ⟨A, e, o⟩ := h
  exact ⟨A, e, o.below hR.below⟩
end
end Go.Proofs.YtamfhmmcnlollaaGreat
