/-
  Memory that is written over: what lies elsewhere stays (Ex); where a slice lies (Lies). No program here.
-/
import Derived.Test.YtamfhmmcnlollaaGreatNat
namespace Go.Proofs.YtamfhmmcnlollaaGreat
open Go.RowKit
set_option linter.unusedVariables false

/-- outside the blocks of S nothing that was there has turned -/
structure Ex (S : Nat → Prop) (w w' : World) : Prop where
  os : w'.os = w.os
  tape : w'.tape = w.tape
  output : w'.output = w.output
  size : w.heap.size ≤ w'.heap.size
  block : ∀ k, k < w.heap.size → ¬ S k → w'.heap[k]? = w.heap[k]?
theorem Ex.refl (S : Nat → Prop) (w : World) : Ex S w w := ⟨rfl, rfl, rfl, Nat.le_refl _, fun _ _ _ => rfl⟩
theorem Ex.trans {S : Nat → Prop} {a b c : World} (h : Ex S a b) (k : Ex S b c) : Ex S a c :=
  ⟨k.os.trans h.os, k.tape.trans h.tape, k.output.trans h.output, Nat.le_trans h.size k.size, fun i hi hs => (k.block i (Nat.lt_of_lt_of_le hi h.size) hs).trans (h.block i hi hs)⟩
theorem Ex.mono {S S' : Nat → Prop} {a b : World} (h : Ex S a b) (hs : ∀ k, S k → S' k) : Ex S' a b := ⟨h.os, h.tape, h.output, h.size, fun k hk hn => h.block k hk (fun e => hn (hs k e))⟩
theorem Ex.below {S : Nat → Prop} {B : Nat} {w w' : World} (h : Ex S w w') (hS : ∀ k, S k → B ≤ k) (hB : B ≤ w.heap.size) : Below B w w' :=
  ⟨h.os, h.tape, h.output, h.size, fun k hk => h.block k (by omega) (fun e => by have := hS k e; omega)⟩
theorem Ex.of_below {S : Nat → Prop} {w w' : World} (h : Below w.heap.size w w') : Ex S w w' := ⟨h.os, h.tape, h.output, h.size, fun k hk _ => h.block k hk⟩
theorem Ex.grown {S : Nat → Prop} {w w' : World} {row : Option Nat} (h : w.grownBy w' row) (hr : ∀ k, row = some k → S k) : Ex S w w' :=
  ⟨h.os, h.tape, h.output, h.size, fun k hk hn => h.block k hk (fun e => hn (hr k e.symm))⟩
theorem Ex.setCell {S : Nat → Prop} (w : World) (g j : Nat) (u : Value) (hs : S g) : Ex S w (w.setCell ⟨g, j, none⟩ u) :=
  ⟨rfl, rfl, rfl, by simp [World.setCell], fun k hk hn => Below.heap_setCell _ _ _ _ (fun e => hn (by rw [e]; exact hs))⟩
theorem Ex.alloc {S : Nat → Prop} (w : World) (o : Obj) : Ex S w (w.alloc o) := Ex.of_below ((Below.refl _ _).alloc (Nat.le_refl _) o)
/-- where a slice lies: none, or a block from B up to U -/
def Lies (A : Option Addr) (B U : Nat) : Prop := ∀ a, A = some a → B ≤ a.block ∧ a.block < U
theorem Lies.mono {A : Option Addr} {B U B' U' : Nat} (h : Lies A B U) (h1 : B' ≤ B) (h2 : U ≤ U') : Lies A B' U' := fun a e => by have := h a e; omega
theorem Own.lies {k : IntKind} {t : TypeId} {B n c : Nat} {w : World} {A : Option Addr} {xs : List Nat} (h : Own k t B w A n c xs) : Lies A B w.heap.size := by
  intro a e
  subst e
  rcases h.2 with ⟨h2, _⟩ | ⟨g, cap, cur, hv, hg, hh, _⟩
  · cases h2
  · injection hv with e1 _ _
    injection e1 with e1
    subst e1
    exact ⟨hg, (Array.getElem?_eq_some_iff.1 hh).1⟩
theorem Own.ex {k : IntKind} {t : TypeId} {B n c : Nat} {w w' : World} {A : Option Addr} {xs : List Nat} {S : Nat → Prop} (h : Own k t B w A n c xs) (hx : Ex S w w') (hs : ∀ a, A = some a → ¬ S a.block) : Own k t B w' A n c xs := by
  refine ⟨h.1, ?_⟩
  rcases h.2 with h2 | ⟨g, cap, cur, hv, hg, hh, r⟩
  · exact .inl h2
  · refine .inr ⟨g, cap, cur, hv, hg, ?_, r⟩
    have e1 : A = some ⟨g, 0, none⟩ := by injection hv
    rw [hx.block g (Array.getElem?_eq_some_iff.1 hh).1 (hs _ e1)]; exact hh
theorem Rd.ex {k : IntKind} {n c : Nat} {w w' : World} {A : Option Addr} {xs : List Nat} {S : Nat → Prop} (h : Rd k w A n c xs) (hx : Ex S w w') (hs : ∀ a, A = some a → ¬ S a.block) : Rd k w' A n c xs := by
  refine ⟨h.1, fun hn => ?_⟩
  obtain ⟨b, off, e, hb, hc⟩ := h.2 hn
  exact ⟨b, off, e, Nat.lt_of_lt_of_le hb hx.size, fun i hi => by rw [← hc i hi]; exact World.cell?_of_block (w := w) (hx.block b hb (hs _ e))⟩
/-- slices that lie in places of their own -/
theorem Lies.apart {A : Option Addr} {B U B' U' : Nat} (h : Lies A B U) (hd : U ≤ B' ∨ U' ≤ B) : ∀ a, A = some a → ¬ (B' ≤ a.block ∧ a.block < U') := fun a e k => by have := h a e; omega
end Go.Proofs.YtamfhmmcnlollaaGreat
