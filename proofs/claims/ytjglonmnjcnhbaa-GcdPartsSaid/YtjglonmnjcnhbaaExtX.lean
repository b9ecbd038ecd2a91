/-
  Boxes that float: a new variable's memory in a region that draws its order; stores into it at the region's end. Stores leave other kinds of memory alone. No program here. The document's integers (surdref05): Neg, Sub, Exact, mod. The document's some (surdref05): a factor of a that gives the gcd modulo b. The document's Extended and Inverse (surdref05).
-/
import Derived.Test.YtjglonmnjcnhbaaIntR
import Derived.Test.YtjglonmnjcnhbaaGcdHX
import Derived.Test.YtjglonmnjcnhbaaGcdCR
namespace Go.Proofs.Ytjglonmnjcnhbaa
open Go.RowKit
set_option linter.unusedVariables false

/-- block b holds cells of the type T -/
def BoxT (T : TypeId) (b : Nat) (w : World) : Prop := ∃ vs z, w.heap[b]? = some (.cells vs T z)
theorem BoxT.lt {T : TypeId} {b : Nat} {w : World} (h : BoxT T b w) : b < w.heap.size := by
  obtain ⟨vs, z, h⟩ := h
  exact (Array.getElem?_eq_some_iff.1 h).1
theorem BoxT.set {T : TypeId} {b : Nat} {w : World} {p : Addr} {u : Value} (h : BoxT T b w) : BoxT T b (w.setCell p u) := by
  obtain ⟨vs, z, h⟩ := h
  unfold BoxT World.setCell
  rw [Array.getElem?_modify]
  split
  · rw [h]; exact ⟨_, _, rfl⟩
  · exact ⟨_, _, h⟩
theorem Own.set_ty {k : IntKind} {t T : TypeId} {B n c : Nat} {w : World} {A : Option Addr} {xs : List Nat} {p : Addr} {u : Value} (h : Own k t B w A n c xs) (hb : BoxT T p.block w) (hT : T ≠ t) : Own k t B (w.setCell p u) A n c xs := by
  refine ⟨h.1, ?_⟩
  rcases h.2 with h2 | ⟨g, cap, cur, hv, hg, hh, r⟩
  · exact .inl h2
  · refine .inr ⟨g, cap, cur, hv, hg, ?_, r⟩
    rw [Below.heap_setCell w p u g (by
      rintro rfl
      obtain ⟨vs, z, hb⟩ := hb
      rw [hb] at hh
      injection hh with hh
      injection hh with _ hh
      exact hT hh)]
    exact hh
theorem Cel.at {w : World} {p : Addr} {v : Value} (h : Cel w p v) : At w p v := ⟨h.1, h.2.2⟩
theorem At.set_ne {w : World} {p q : Addr} {v u : Value} (h : At w p v) (hne : q.block ≠ p.block) : At (w.setCell q u) p v :=
  ⟨by rw [World.cell?_setCell_other _ _ _ _ (by rintro rfl; exact hne rfl)]; exact h.1, by simpa [World.setCell] using h.2⟩
/-- a variable's new memory -/
def FBox (B : Nat) (T : TypeId) (vs : Array Value) (v : Value) (w : World) : Prop := ∃ b, v = .pointer (some ⟨b, 0, none⟩) ∧ B ≤ b ∧ w.heap[b]? = some (.cells vs T (0, 0))
theorem FBox.grow {B : Nat} {T : TypeId} {vs : Array Value} {v : Value} {w w' : World} (h : FBox B T vs v w) (hR : Grow none w w') : FBox B T vs v w' := by
  obtain ⟨b, e, hB, hh⟩ := h
  obtain ⟨_, _, _, _, h5⟩ := hR
  exact ⟨b, e, hB, (h5 b (Array.getElem?_eq_some_iff.1 hh).1 (by simp)).trans hh⟩
theorem cel_of {T : TypeId} {vs : Array Value} {w : World} {b j : Nat} {u : Value} (h : w.heap[b]? = some (.cells vs T (0, 0))) (hj : vs[j]? = some u) : Cel w ⟨b, j, none⟩ u := by
  refine ⟨?_, ?_, (Array.getElem?_eq_some_iff.1 h).1⟩
  · simp only [World.cell?, h, hj]; rfl
  · simp only [World.frozen?, h]; simp
theorem At.growB {w : World} {p : Addr} {v : Value} (h : At w p v) : ∀ w', KB w.heap.size w.drew w' → w'.cell? p = some v := fun w' g => (g.cell (p := p) h.2 h.2).trans h.1
section
variable {P : Program} {l : List Oper} {Q : Exit → Act → World → Prop} {R R1 : World → World → Prop} {G : Nat → Value → World → Prop}
theorem flt_alloc {i : Nat} {o : Oper} {rest : List (Nat × Nat)} {a : Act} {w : World} (B : Nat) (T : TypeId) (vs : Array Value) (ho' : opAt l i = some o) (hg : o.guard = none)
    (hrun : ∀ w1, (execOp a.eval o).run P w1 = .ok (.value (.pointer (some ⟨w1.heap.size, 0, none⟩))) (w1.alloc (.cells vs T))) (hB : B ≤ w.heap.size)
    (h : wpF P l.toArray Q R (Grow none) rest (fun j => if j = i then FBox B T vs else G j) a w) : wpF P l.toArray Q R (Grow none) ((2, i) :: rest) G a w := by
  have ho : l.toArray[i]? = some o := (opAt_eq l i).trans ho'
  refine ⟨o, ho, FBox B T vs, fun v w w' hF hR => FBox.grow hF hR, ⟨by simp [Region.wanted, hg], fun w1 h1 => ?_⟩, h⟩
  refine ⟨_, _, hrun w1, Grow.of_below ((Below.refl _ _).alloc (Nat.le_refl _) _), ⟨_, rfl, Nat.le_trans hB h1.below.size, heap_alloc_new _ _⟩, fun p hp => ?_⟩
  injection hp with hp
  subst hp
  exact ⟨Nat.le_refl _, by simp⟩
end
/-- all but two blocks stay -/
def KE (b1 b2 : Nat) (w w' : World) : Prop := (w'.os = w.os ∧ w'.tape = w.tape ∧ w'.output = w.output) ∧ w.heap.size ≤ w'.heap.size ∧ ∀ i, i ≠ b1 → i ≠ b2 → i < w.heap.size → w'.heap[i]? = w.heap[i]?
theorem KE.refl (b1 b2 : Nat) (w : World) : KE b1 b2 w w := ⟨⟨rfl, rfl, rfl⟩, Nat.le_refl _, fun _ _ _ _ => rfl⟩
theorem KE.trans (b1 b2 : Nat) (a b c : World) (h : KE b1 b2 a b) (k : KE b1 b2 b c) : KE b1 b2 a c :=
  ⟨⟨k.1.1.trans h.1.1, k.1.2.1.trans h.1.2.1, k.1.2.2.trans h.1.2.2⟩, Nat.le_trans h.2.1 k.2.1, fun i h1 h2 hl => (k.2.2 i h1 h2 (Nat.lt_of_lt_of_le hl h.2.1)).trans (h.2.2 i h1 h2 hl)⟩
theorem KE.of_grow (b1 b2 : Nat) (a b : World) (h : Grow none a b) : KE b1 b2 a b := by
  obtain ⟨h1, h2, h3, h4, h5⟩ := h
  exact ⟨⟨h1, h2, h3⟩, h4, fun i _ _ hl => h5 i hl (by simp)⟩
theorem KE.set2 {b1 b2 b i j : Nat} {w : World} {u1 u2 : Value} (hb : b = b1 ∨ b = b2) : KE b1 b2 w ((w.setCell ⟨b, i, none⟩ u1).setCell ⟨b, j, none⟩ u2) :=
  ⟨⟨rfl, rfl, rfl⟩, by simp [World.setCell], fun k h1 h2 _ => by
    rw [Below.heap_setCell _ _ _ k (by show k ≠ b; omega), Below.heap_setCell _ _ _ k (by show k ≠ b; omega)]⟩
theorem At.growE {w : World} {p : Addr} {v : Value} {b1 b2 : Nat} (h : At w p v) (h1 : p.block ≠ b1) (h2 : p.block ≠ b2) : ∀ w', KE b1 b2 w.drew w' → w'.cell? p = some v := fun w' g => by
  have e := g.2.2 p.block h1 h2 h.2
  have := h.1
  unfold World.cell? at this ⊢
  rw [e]
  exact this
section
variable {P : Program} {l : List Oper} {Q : Exit → Act → World → Prop} {R1 : World → World → Prop} {G : Nat → Value → World → Prop} {b1 b2 : Nat}
theorem flt_pasE {i : Nat} {o : Oper} {rest : List (Nat × Nat)} {a : Act} {w : World} (ho' : opAt l i = some o)
    (h : ∀ K : Value → Act → Prop, (∀ v a', (∀ w', KE b1 b2 w w' → if Region.wanted o (yielded l.toArray a.tmps) then pasOf (· = v) w' ((execOp a.eval o).run P w') else undef = v) → wpF P l.toArray Q (KE b1 b2) R1 rest G a' w → K v a') →
      if Region.wanted o (yielded l.toArray a.tmps) then pasOf (fun v => K v (a.put o.dst v)) w ((execOp a.eval o).run P w) else K undef (a.put o.dst undef)) : wpF P l.toArray Q (KE b1 b2) R1 ((0, i) :: rest) G a w := flt_pas ho' h (KE.refl _ _ _)
end
theorem KB.set2 {B b i j : Nat} {w : World} {u1 u2 : Value} (hb : B ≤ b) : KB B w ((w.setCell ⟨b, i, none⟩ u1).setCell ⟨b, j, none⟩ u2) :=
  KB.of_le (((Below.refl B w).setCell (p := ⟨b, i, none⟩) hb u1).setCell (p := ⟨b, j, none⟩) hb u2) (Nat.le_refl _)
theorem KB.below {B : Nat} {w w' : World} (h : KB B w w') (hB : w.heap.size ≤ B) : Below w.heap.size w w' :=
  ⟨h.1.1, h.1.2.1, h.1.2.2, h.2.1, fun i hi => h.2.2 i (Nat.lt_of_lt_of_le hi hB) hi⟩
end Go.Proofs.Ytjglonmnjcnhbaa
namespace Go.Proofs.Ytjglonmnjcnhbaa
open Go.RowKit
set_option linter.unusedVariables false
theorem sg_exact {s t : Bool} {x y : Nat} {k : Int} (h : sg s x = k * sg t y) (hy : 0 < y) : sg (s != t) (x / y) = k := by
  have hk : x = k.natAbs * y := by
    have := congrArg Int.natAbs h
    rwa [sg_abs, Int.natAbs_mul, sg_abs] at this
  rw [hk, Nat.mul_div_cancel _ hy]
  have e2 : sg (s != t) k.natAbs * sg t y = k * sg t y := by
    rw [← h, hk, ← sg_mul]
    cases s <;> cases t <;> rfl
  have hy0 : sg t y ≠ 0 := by unfold sg; split <;> omega
  exact Int.eq_of_mul_eq_mul_right hy0 e2
theorem mod_pos {x m : Nat} : (((x : Int) % (m : Int)).toNat) = x % m := by
  rw [← Int.natCast_emod, Int.toNat_natCast]
theorem mod_neg0 {x m : Nat} (h : x % m = 0) : ((-(x : Int) % (m : Int)).toNat) = x % m := by
  have h1 : (m : Int) ∣ -(x : Int) := Int.dvd_neg.2 (Int.natCast_dvd_natCast.2 (Nat.dvd_of_mod_eq_zero h))
  rw [Int.emod_eq_zero_of_dvd h1, h]; rfl
theorem mod_negp {x m : Nat} (hm : 0 < m) (h : 0 < x % m) : ((-(x : Int) % (m : Int)).toNat) = m - x % m := by
  have hlt := Nat.mod_lt x hm
  have e : (x : Int) = (m : Int) * ((x / m : Nat) : Int) + ((x % m : Nat) : Int) := by rw [← Int.natCast_mul, ← Int.natCast_add, Nat.div_add_mod]
  have e2 : -(x : Int) = ((m - x % m : Nat) : Int) + (m : Int) * (-((x / m : Nat) : Int) - 1) := by
    rw [Int.natCast_sub (Nat.le_of_lt hlt), Int.mul_sub, Int.mul_neg]; omega
  rw [e2, Int.add_mul_emod_self_left, Int.emod_eq_of_lt (by omega) (by omega), Int.toNat_natCast]
end Go.Proofs.Ytjglonmnjcnhbaa
namespace Go.Proofs.Ytjglonmnjcnhbaa
open Go.RowKit
set_option linter.unusedVariables false

def SomeOk (a b : Nat) (z : Int) : Prop := (∃ k : Int, z * (a : Int) = (Nat.gcd a b : Int) + (b : Int) * k) ∧ z.natAbs ≤ max 1 b
theorem some_one {a b : Nat} (h : b % a = 0) : SomeOk a b 1 := by
  refine ⟨⟨0, ?_⟩, ?_⟩
  · rw [Nat.gcd_eq_left (Nat.dvd_of_mod_eq_zero h)]; omega
  · show 1 ≤ _; omega
theorem some_step {a b : Nat} {y k : Int} (ha : 0 < a) (hr : 0 < b % a) (h1 : y * ((b % a : Nat) : Int) = (Nat.gcd (b % a) a : Int) + (a : Int) * k) (h2 : y.natAbs ≤ max 1 a) :
    SomeOk a b (-(y * ((b / a : Nat) : Int) + k)) := by
  have hb : (b : Int) = (a : Int) * ((b / a : Nat) : Int) + ((b % a : Nat) : Int) := by rw [← Int.natCast_mul, ← Int.natCast_add, Nat.div_add_mod]
  have hbn : b = a * (b / a) + b % a := (Nat.div_add_mod b a).symm
  have hlt : b % a < a := Nat.mod_lt b ha
  have hG : Nat.gcd (b % a) a ≤ b % a := Nat.gcd_le_left a hr
  have hg : Nat.gcd a b = Nat.gcd (b % a) a := Nat.gcd_rec a b
  generalize b / a = q at *
  generalize b % a = r at *
  rw [SomeOk, hg]
  generalize Nat.gcd r a = G at *
  have h2 : y.natAbs ≤ a := by omega
  have hk : k.natAbs ≤ r := by
    rcases Nat.lt_or_ge r k.natAbs with h3 | h3
    · exfalso
      have e1 : a * (r + 1) ≤ a * k.natAbs := Nat.mul_le_mul_left _ h3
      have e2 : a * k.natAbs ≤ y.natAbs * r + G := by
        have e3 : (a : Int) * k = y * (r : Int) + -(G : Int) := by omega
        have e4 := congrArg Int.natAbs e3
        rw [Int.natAbs_mul, Int.natAbs_natCast] at e4
        rw [e4]
        refine Nat.le_trans (Int.natAbs_add_le _ _) ?_
        rw [Int.natAbs_mul, Int.natAbs_neg, Int.natAbs_natCast, Int.natAbs_natCast]
        exact Nat.le_refl _
      have e5 : y.natAbs * r ≤ a * r := Nat.mul_le_mul_right _ h2
      rw [Nat.mul_add] at e1
      omega
    · exact h3
  refine ⟨⟨-y, ?_⟩, ?_⟩
  · rw [hb]
    have e1 : -(y * (q : Int) + k) * (a : Int) = -((a : Int) * (q : Int) * y) - (a : Int) * k := by
      rw [Int.neg_mul, Int.add_mul, Int.mul_comm k, Int.mul_assoc, Int.mul_comm y, Int.mul_comm (q : Int)]; omega
    have e2 : ((a : Int) * (q : Int) + (r : Int)) * -y = -((a : Int) * (q : Int) * y) - y * (r : Int) := by
      rw [Int.mul_neg, Int.add_mul, Int.mul_comm (r : Int)]; omega
    rw [e1, e2, h1]
    omega
  · have e1 : (y * (q : Int) + k).natAbs ≤ a * q + r := by
      refine Nat.le_trans (Int.natAbs_add_le _ _) ?_
      rw [Int.natAbs_mul, Int.natAbs_natCast]
      have := Nat.mul_le_mul_right q h2
      omega
    rw [Int.natAbs_neg]
    omega
def GS (w : World) (a b K : Nat) (e : Ending) (w' : World) : Prop := ∃ z, SomeOk a b z ∧ GI w z K e w'
theorem some_lt {a b K : Nat} {z : Int} (h : SomeOk a b z) (hb : b < W ^ K) (hK : 1 ≤ K) : z.natAbs < W ^ K := by
  have h1 : W ^ 1 ≤ W ^ K := Nat.pow_le_pow_right W_pos hK
  have h2 := W_gt
  rw [Nat.pow_one] at h1
  have := h.2
  omega
theorem extok_of {a b x : Nat} {k : Int} (hb : 0 < b) (h : (Nat.gcd a b : Int) - (x : Int) * (a : Int) = k * (b : Int)) (hx : x < b / Nat.gcd a b) : ExtOk a b x k.natAbs (decide (k < 0)) := by
  have e : (x : Int) * (a : Int) = ((x * a : Nat) : Int) := (Int.natCast_mul x a).symm
  rw [e] at h
  refine ⟨?_, fun h0 => by omega, fun _ => hx⟩
  by_cases hk : k < 0
  · left
    obtain ⟨j, rfl⟩ : ∃ j : Nat, k = -(j : Int) := ⟨k.natAbs, by omega⟩
    rw [Int.neg_mul, ← Int.natCast_mul] at h
    rw [Int.natAbs_neg, Int.natAbs_natCast]
    refine ⟨decide_eq_true hk, by omega, by omega⟩
  · right
    obtain ⟨j, rfl⟩ : ∃ j : Nat, k = (j : Int) := ⟨k.natAbs, by omega⟩
    rw [← Int.natCast_mul] at h
    rw [Int.natAbs_natCast]
    refine ⟨decide_eq_false hk, by omega⟩
theorem ext_part {a b : Nat} (hb : 0 < b) : 0 < b / Nat.gcd a b := Nat.div_pos (Nat.le_of_dvd hb (Nat.gcd_dvd_right a b)) (Nat.gcd_pos_of_pos_right a hb)
theorem ext_law {a b : Nat} {z : Int} (hb : 0 < b) (hz : SomeOk a b z) :
    ∃ k : Int, (Nat.gcd a b : Int) - (((z % ((b / Nat.gcd a b : Nat) : Int)).toNat : Nat) : Int) * (a : Int) = k * (b : Int) ∧ (z % ((b / Nat.gcd a b : Nat) : Int)).toNat < b / Nat.gcd a b := by
  have hp := ext_part (a := a) hb
  obtain ⟨⟨j, hj⟩, _⟩ := hz
  obtain ⟨d, hd⟩ := Nat.gcd_dvd_left a b
  obtain ⟨p, hp2⟩ := Nat.gcd_dvd_right a b
  have hg : 0 < Nat.gcd a b := Nat.gcd_pos_of_pos_right a hb
  have hbp : b / Nat.gcd a b = p := by conv => lhs; arg 1; rw [hp2]
                                       exact Nat.mul_div_cancel_left p hg
  rw [hbp] at hp ⊢
  generalize Nat.gcd a b = g at *
  have h0 : 0 ≤ z % (p : Int) := Int.emod_nonneg _ (by omega)
  have h1 : z % (p : Int) < (p : Int) := Int.emod_lt_of_pos _ (by omega)
  have h2 := Int.mul_ediv_add_emod z (p : Int)
  refine ⟨(z / (p : Int)) * (d : Int) - j, ?_, by omega⟩
  rw [Int.toNat_of_nonneg h0]
  have ea : (a : Int) = (g : Int) * (d : Int) := by rw [← Int.natCast_mul, ← hd]
  have eb : (b : Int) = (g : Int) * (p : Int) := by rw [← Int.natCast_mul, ← hp2]
  have e3 : z % (p : Int) = z - (p : Int) * (z / (p : Int)) := by omega
  have e4 : (z - (p : Int) * (z / (p : Int))) * (a : Int) = z * (a : Int) - (z / (p : Int)) * (d : Int) * (b : Int) := by
    rw [Int.sub_mul, ea, eb]
    congr 1
    rw [Int.mul_comm (p : Int), Int.mul_assoc, Int.mul_assoc, Int.mul_left_comm (p : Int), Int.mul_left_comm (d : Int), Int.mul_comm (p : Int)]
  rw [e3, e4, hj, Int.sub_mul, Int.mul_comm j]
  omega
end Go.Proofs.Ytjglonmnjcnhbaa
namespace Go.Proofs.Ytjglonmnjcnhbaa
open Go.RowKit
set_option linter.unusedVariables false

theorem At.growN {w : World} {p : Addr} {v : Value} (h : At w p v) : ∀ w', Grow none w.drew w' → w'.cell? p = some v := At.grow h
end Go.Proofs.Ytjglonmnjcnhbaa
