/-
  surdlaw01.apart for a row of lists that lie apart.
-/
import Derived.Test.YtfpogghlcodncaaDoorApart01
namespace Go.Proofs.YtfpogghlcodncaaDoor
open Go.RowKit
set_option linter.unusedVariables false

theorem bits_u64a (op : BinOp) (x y : Int) : ∃ e : Nat, bits op .u64 x y = (e : Int) ∧ e < W := by
  have h := wf_bits op .u64 x y
  have h2 : IntKind.u64.min ≤ bits op .u64 x y ∧ bits op .u64 x y ≤ IntKind.u64.max := by simpa [Lit.wf] using h
  have e1 : IntKind.u64.min = 0 := by decide
  have e2 : IntKind.u64.max = 18446744073709551615 := by decide
  exact ⟨(bits op .u64 x y).toNat, by omega, by rw [W_eq]; omega⟩
theorem RowV.litz {T : TypeId} {B : Nat} (w : World) (hB : B ≤ w.heap.size) : RowV T B (w.alloc (.cells #[] T)) (some ⟨w.heap.size, 0, none⟩) 0 0 [] := RowV.lit w [] rfl (by simp) hB
theorem all_appa {P : Sh → Prop} {s1 s2 : List Sh} (h1 : ∀ (i : Nat) (s : Sh), s1[i]? = some s → P s) (h2 : ∀ (i : Nat) (s : Sh), s2[i]? = some s → P s) : ∀ (i : Nat) (s : Sh), (s1 ++ s2)[i]? = some s → P s := by
  intro i s hi
  by_cases h : i < s1.length
  · rw [List.getElem?_append_left h] at hi; exact h1 i s hi
  · rw [List.getElem?_append_right (by omega)] at hi; exact h2 _ s hi
theorem Els.rda {t : TypeId} {B : Nat} {w : World} {ss : List Sh} {F : Nat → List Nat} (h : Els t B w ss F) : ∀ (i : Nat) (s : Sh), ss[i]? = some s → Rd .u64 w s.1 s.2.1 s.2.2 (F i) := fun i s hi => (h i s hi).rd
theorem Els.lens {t : TypeId} {B M : Nat} {w : World} {ss : List Sh} {F : Nat → List Nat} (h : Els t B w ss F) (hF : ∀ i, (F i).length ≤ M) : ∀ (i : Nat) (s : Sh), ss[i]? = some s → s.2.1 ≤ M := fun i s hi => by
  have h1 := (h i s hi).len
  have h2 := hF i
  omega
theorem Ex.of_basea {B : Nat} {w w' : World} (h : Below B w w') : Ex (fun j => B ≤ j) w w' := ⟨h.os, h.tape, h.output, h.size, fun k hk hn => h.block k (by omega)⟩
theorem At.ex {w w' : World} {p : Addr} {v : Value} {S : Nat → Prop} (h : At w p v) (hx : Ex S w w') (hs : ¬ S p.block) : At w' p v := by
  refine ⟨?_, Nat.lt_of_lt_of_le h.2 hx.size⟩
  have := hx.block p.block h.2 hs
  unfold World.cell? at *
  rw [this]
  exact h.1
theorem apart01L_any {A : Option Addr} {n c B B2 : Nat} {l : List Sh} {F : Nat → List Nat} {w : World} (h : RowV 23 B w A n c (l.map shv)) (hE : Els 22 B2 w l F) (hA : Apt l)
    (hM : ∀ (i : Nat) (s : Sh), l[i]? = some s → s.2.1 ≤ 67108864) (hn : n ≤ 1048576) (hB : B2 ≤ w.heap.size) :
    Calls Tryd.prog 9 #[.slice A n c] w (fun e w' => e = .returned (.bool true) ∧ Ex (fun b => Blk l b ∨ w.heap.size ≤ b) w w') := by
  have hl : l.length = n := by have := h.rd.1.1; rwa [List.length_map] at this
  obtain ⟨col, hcol⟩ := hA.col
  have hg : ∀ j, j < n → l[j]? = some ((l[j]?).getD (none, 0, 0)) := fun j hj => by
    rw [List.getElem?_eq_getElem (by omega)]; rfl
  have hm : l.map shv = (List.range n).map fun j => shv ((l[j]?).getD (none, 0, 0)) := by
    apply List.ext_getElem
    · simp [hl]
    · intro i h1 h2
      have hi : i < l.length := by simpa using h1
      simp [List.getElem?_eq_getElem hi]
  have h' := h.rd
  rw [hm] at h'
  refine (apart01_any (ss := fun j => (l[j]?).getD (none, 0, 0)) (F := F) (col := col) (B := B2) h' (fun j hj => ⟨hE j _ (hg j hj), hcol j _ (hg j hj)⟩) ?_ (fun j hj => hM j _ (hg j hj)) hn hB).mono ?_
  · intro a ea j hj ⟨b, eb, hb⟩
    exact (RowV.ne_own h (hE j _ (hg j hj)) (by decide)) a b ea eb hb.symm
  · rintro e w' ⟨rfl, hx⟩
    refine ⟨rfl, hx.mono fun b hb => ?_⟩
    rcases hb with ⟨j, hj, a, ea, hb⟩ | hb
    · exact .inl ⟨j, _, a, hg j hj, ea, hb⟩
    · exact .inr hb
end Go.Proofs.YtfpogghlcodncaaDoor
