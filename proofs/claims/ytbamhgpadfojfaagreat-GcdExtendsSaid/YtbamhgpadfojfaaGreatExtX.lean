/-
  Boxes that float: a new variable's memory in a region that draws its order; stores into it at the region's end. Stores leave other kinds of memory alone. No program here. The document's integers (surdref05): Neg, Sub, Exact, mod. The document's some (surdref05): a factor of a that gives the gcd modulo b. The document's Extended and Inverse (surdref05).
-/
import Derived.Test.YtbamhgpadfojfaaGreatIntR
import Derived.Test.YtbamhgpadfojfaaGreatGcdHX
import Derived.Test.YtbamhgpadfojfaaGreatGcdC
namespace Go.Proofs.YtbamhgpadfojfaaGreat
open Go.RowKit
set_option linter.unusedVariables false

/-- block b holds cells of the type T -/
def BoxT (T : TypeId) (b : Nat) (w : World) : Prop := ∃ vs z, w.heap[b]? = some (.cells vs T z)
theorem BoxT.lt {T : TypeId} {b : Nat} {w : World} (h : BoxT T b w) : b < w.heap.size := by
  obtain ⟨vs, z, h⟩ := h
  exact (Array.getElem?_eq_some_iff.1 h).1
theorem BoxT.set {T : TypeId} {b : Nat} {w : World} {p : Addr} {u : Value} (h : BoxT T b w) : BoxT T b (w.setCell p u) := by
  obtain ⟨vs, z, h⟩ := h
  unfold BoxT World.setCell
  rw [Array.getElem?_modify]
  split
  · rw [h]; exact ⟨_, _, rfl⟩
  · exact ⟨_, _, h⟩
theorem Own.set_ty {k : IntKind} {t T : TypeId} {B n c : Nat} {w : World} {A : Option Addr} {xs : List Nat} {p : Addr} {u : Value} (h : Own k t B w A n c xs) (hb : BoxT T p.block w) (hT : T ≠ t) : Own k t B (w.setCell p u) A n c xs := by
  refine ⟨h.1, ?_⟩
  rcases h.2 with h2 | ⟨g, cap, cur, hv, hg, hh, r⟩
  · exact .inl h2
  · refine .inr ⟨g, cap, cur, hv, hg, ?_, r⟩
    rw [Below.heap_setCell w p u g (by
      rintro rfl
      obtain ⟨vs, z, hb⟩ := hb
      rw [hb] at hh
      injection hh with hh
      injection hh with _ hh
      exact hT hh)]
    exact hh
theorem Cel.at {w : World} {p : Addr} {v : Value} (h : Cel w p v) : At w p v := ⟨h.1, h.2.2⟩
theorem At.set_ne {w : World} {p q : Addr} {v u : Value} (h : At w p v) (hne : q.block ≠ p.block) : At (w.setCell q u) p v :=
  ⟨by rw [World.cell?_setCell_other _ _ _ _ (by rintro rfl; exact hne rfl)]; exact h.1, by simpa [World.setCell] using h.2⟩
/-- a variable's new memory -/
def FBox (B : Nat) (T : TypeId) (vs : Array Value) (v : Value) (w : World) : Prop := ∃ b, v = .pointer (some ⟨b, 0, none⟩) ∧ B ≤ b ∧ w.heap[b]? = some (.cells vs T (0, 0))
theorem FBox.grow {B : Nat} {T : TypeId} {vs : Array Value} {v : Value} {w w' : World} (h : FBox B T vs v w) (hR : Grow none w w') : FBox B T vs v w' := by
  obtain ⟨b, e, hB, hh⟩ := h
  obtain ⟨_, _, _, _, h5⟩ := hR
  exact ⟨b, e, hB, (h5 b (Array.getElem?_eq_some_iff.1 hh).1 (by simp)).trans hh⟩
theorem cel_of {T : TypeId} {vs : Array Value} {w : World} {b j : Nat} {u : Value} (h : w.heap[b]? = some (.cells vs T (0, 0))) (hj : vs[j]? = some u) : Cel w ⟨b, j, none⟩ u := by
  refine ⟨?_, ?_, (Array.getElem?_eq_some_iff.1 h).1⟩
  · simp only [World.cell?, h, hj]; rfl
  · simp only [World.frozen?, h]; simp
theorem At.growB {w : World} {p : Addr} {v : Value} (h : At w p v) : ∀ w', KB w.heap.size w.drew w' → w'.cell? p = some v := fun w' g => (g.cell (p := p) h.2 h.2).trans h.1
section
variable {P : Program} {l : List Oper} {Q : Exit → Act → World → Prop} {R R1 : World → World → Prop} {G : Nat → Value → World → Prop}
theorem flt_alloc {i : Nat} {o : Oper} {rest : List (Nat × Nat)} {a : Act} {w : World} (B : Nat) (T : TypeId) (vs : Array Value) (ho' : opAt l i = some o) (hg : o.guard = none)
    (hrun : ∀ w1, (execOp a.eval o).run P w1 = .ok (.value (.pointer (some ⟨w1.heap.size, 0, none⟩))) (w1.alloc (.cells vs T))) (hB : B ≤ w.heap.size)
    (h : wpF P l.toArray Q R (Grow none) rest (fun j => if j = i then FBox B T vs else G j) a w) : wpF P l.toArray Q R (Grow none) ((2, i) :: rest) G a w := by
  have ho : l.toArray[i]? = some o := (opAt_eq l i).trans ho'
  refine ⟨o, ho, FBox B T vs, fun v w w' hF hR => FBox.grow hF hR, ⟨by simp [Region.wanted, hg], fun w1 h1 => ?_⟩, h⟩
  refine ⟨_, _, hrun w1, Grow.of_below ((Below.refl _ _).alloc (Nat.le_refl _) _), ⟨_, rfl, Nat.le_trans hB h1.below.size, heap_alloc_new _ _⟩, fun p hp => ?_⟩
  injection hp with hp
  subst hp
  exact ⟨Nat.le_refl _, by simp⟩
end
/-- all but two blocks stay -/
def KE (b1 b2 : Nat) (w w' : World) : Prop := (w'.os = w.os ∧ w'.tape = w.tape ∧ w'.output = w.output) ∧ w.heap.size ≤ w'.heap.size ∧ ∀ i, i ≠ b1 → i ≠ b2 → i < w.heap.size → w'.heap[i]? = w.heap[i]?
theorem KE.refl (b1 b2 : Nat) (w : World) : KE b1 b2 w w := ⟨⟨rfl, rfl, rfl⟩, Nat.le_refl _, fun _ _ _ _ => rfl⟩
theorem KE.trans (b1 b2 : Nat) (a b c : World) (h : KE b1 b2 a b) (k : KE b1 b2 b c) : KE b1 b2 a c :=
  ⟨⟨k.1.1.trans h.1.1, k.1.2.1.trans h.1.2.1, k.1.2.2.trans h.1.2.2⟩, Nat.le_trans h.2.1 k.2.1, fun i h1 h2 hl => (k.2.2 i h1 h2 (Nat.lt_of_lt_of_le hl h.2.1)).trans (h.2.2 i h1 h2 hl)⟩
theorem KE.of_grow (b1 b2 : Nat) (a b : World) (h : Grow none a b) : KE b1 b2 a b := by
  obtain ⟨h1, h2, h3, h4, h5⟩ := h
  exact ⟨⟨h1, h2, h3⟩, h4, fun i _ _ hl => h5 i hl (by simp)⟩
theorem KE.set2 {b1 b2 b i j : Nat} {w : World} {u1 u2 : Value} (hb : b = b1 ∨ b = b2) : KE b1 b2 w ((w.setCell ⟨b, i, none⟩ u1).setCell ⟨b, j, none⟩ u2) :=
  ⟨⟨rfl, rfl, rfl⟩, by simp [World.setCell], fun k h1 h2 _ => by
    rw [Below.heap_setCell _ _ _ k (by show k ≠ b; omega), Below.heap_setCell _ _ _ k (by show k ≠ b; omega)]⟩
theorem At.growE {w : World} {p : Addr} {v : Value} {b1 b2 : Nat} (h : At w p v) (h1 : p.block ≠ b1) (h2 : p.block ≠ b2) : ∀ w', KE b1 b2 w.drew w' → w'.cell? p = some v := fun w' g => by
  have e := g.2.2 p.block h1 h2 h.2
  have := h.1
  unfold World.cell? at this ⊢
  rw [e]
  exact this
section
variable {P : Program} {l : List Oper} {Q : Exit → Act → World → Prop} {R1 : World → World → Prop} {G : Nat → Value → World → Prop} {b1 b2 : Nat}
theorem flt_pasE {i : Nat} {o : Oper} {rest : List (Nat × Nat)} {a : Act} {w : World} (ho' : opAt l i = some o)
    (h : ∀ K : Value → Act → Prop, (∀ v a', (∀ w', KE b1 b2 w w' → if Region.wanted o (yielded l.toArray a.tmps) then pasOf (· = v) w' ((execOp a.eval o).run P w') else undef = v) → wpF P l.toArray Q (KE b1 b2) R1 rest G a' w → K v a') →
      if Region.wanted o (yielded l.toArray a.tmps) then pasOf (fun v => K v (a.put o.dst v)) w ((execOp a.eval o).run P w) else K undef (a.put o.dst undef)) : wpF P l.toArray Q (KE b1 b2) R1 ((0, i) :: rest) G a w := flt_pas ho' h (KE.refl _ _ _)
end
theorem KB.set2 {B b i j : Nat} {w : World} {u1 u2 : Value} (hb : B ≤ b) : KB B w ((w.setCell ⟨b, i, none⟩ u1).setCell ⟨b, j, none⟩ u2) :=
  KB.of_le (((Below.refl B w).setCell (p := ⟨b, i, none⟩) hb u1).setCell (p := ⟨b, j, none⟩) hb u2) (Nat.le_refl _)
theorem KB.below {B : Nat} {w w' : World} (h : KB B w w') (hB : w.heap.size ≤ B) : Below w.heap.size w w' :=
  ⟨h.1.1, h.1.2.1, h.1.2.2, h.2.1, fun i hi => h.2.2 i (Nat.lt_of_lt_of_le hi hB) hi⟩
end Go.Proofs.YtbamhgpadfojfaaGreat
namespace Go.Proofs.YtbamhgpadfojfaaGreat
open Go.RowKit
set_option linter.unusedVariables false

set_option maxHeartbeats 400000 in
theorem neg5_any {A : Option Addr} {n c x L : Nat} {s : Bool} {z : Int} {w : World} (h : Num w (.slice A n c) x L) (hz : sg s x = z) (hL : L ≤ 17179869184) :
    Calls Tryz.prog 88 #[.agg #[.bool s, .slice A n c]] w (GI w (-z) L) := by
  subst hz
  have H := Lib.hid h
  clear h
  go_enter Tryz.func88, Tryz.ntmps88
  have e0 := ((At.boxc (i := 0) (v := .bool s) (t := 40) (b := w.heap.size) w #[.bool s, .slice A n c] rfl (by simp)).below ((Below.refl _ _).alloc (Nat.le_refl _) (.cells #[.bool false, .slice none 0 0] 40))).1
  have e1 := ((At.boxc (i := 1) (v := .slice A n c) (t := 40) (b := w.heap.size) w #[.bool s, .slice A n c] rfl (by simp)).below ((Below.refl _ _).alloc (Nat.le_refl _) (.cells #[.bool false, .slice none 0 0] 40))).1
  go_wp2_with fail
  refine (I5_any (s := !s) ((H.out.below ((Below.refl _ _).alloc (Nat.le_refl _) (.cells #[.bool s, .slice A n c] 40))).below ((Below.refl _ _).alloc (Nat.le_refl _) (.cells #[.bool false, .slice none 0 0] 40))) (by omega)).mono ?_
  rintro e w1 ⟨A_r, n_r, c_r, s_r, rfl, hs_r, o_r, hb1, l_r⟩
  clear e0 e1
  have c1 := ((Cel.box (i := 0) (v := .bool false) (t := 40) (b := w.heap.size + 1) (World.alloc w (.cells #[.bool s, .slice A n c] 40)) #[.bool false, .slice none 0 0] rfl (by simp)).below hb1)
  have c2 := ((Cel.box (i := 1) (v := .slice none 0 0) (t := 40) (b := w.heap.size + 1) (World.alloc w (.cells #[.bool s, .slice A n c] 40)) #[.bool false, .slice none 0 0] rfl (by simp)).below hb1)
  obtain ⟨c1a, c1b, c1c⟩ := c1
  obtain ⟨c2a, c2b, c2c⟩ := c2
  have HO := Lib.hid o_r
  have HB := Lib.hid (bt (bt ((Below.refl _ _).alloc (Nat.le_refl _) (.cells #[.bool s, .slice A n c] 40)) ((Below.refl _ _).alloc (Nat.le_refl _) (.cells #[.bool false, .slice none 0 0] 40))) hb1)
  go_wp2
  refine bodyPost_ret (v := .agg #[.bool s_r, .slice A_r n_r c_r]) (by simp [results, Tryz.results88, go_sem, c1a, c2a]) rfl ?_
  exact GI.eq (gi_fin hs_r HO.out HB.out (by simp) (by omega)) (sg_not s x)
set_option maxHeartbeats 1000000 in
theorem sub5_any {A A' : Option Addr} {n c m d x y L M : Nat} {s t : Bool} {z1 z2 : Int} {w : World} (h : Num w (.slice A n c) x L) (h' : Num w (.slice A' m d) y M) (hz1 : sg s x = z1) (hz2 : sg t y = z2) (hL1 : 1 ≤ L) (hM1 : 1 ≤ M) (hL : L ≤ 8589934592) (hM : M ≤ 8589934592) :
    Calls Tryz.prog 60 #[.agg #[.bool s, .slice A n c], .agg #[.bool t, .slice A' m d]] w (GI w (z1 - z2) (max L M + 1)) := by
  subst hz1 hz2
  have H := Lib.hid h
  have H' := Lib.hid h'
  clear h h'
  go_enter Tryz.func60, Tryz.ntmps60
  go_wp2_with fail
  have e_f0 := (((At.boxc (i := 0) (v := .bool s) (t := 40) (b := w.heap.size) w #[.bool s, .slice A n c] rfl (by simp)).below ((Below.refl _ _).alloc (Nat.le_refl _) (.cells #[.bool t, .slice A' m d] 40))).below ((Below.refl _ _).alloc (Nat.le_refl _) (.cells #[.bool false, .slice none 0 0] 40))).1
  have g_f0 := At.growS (b := (w.heap.size + 1 + 1)) (((At.boxc (i := 0) (v := .bool s) (t := 40) (b := w.heap.size) w #[.bool s, .slice A n c] rfl (by simp)).below ((Below.refl _ _).alloc (Nat.le_refl _) (.cells #[.bool t, .slice A' m d] 40))).below ((Below.refl _ _).alloc (Nat.le_refl _) (.cells #[.bool false, .slice none 0 0] 40))) (by simp <;> omega)
  have e_g0 := ((At.boxc (i := 0) (v := .bool t) (t := 40) (b := w.heap.size + 1) (World.alloc w (.cells #[.bool s, .slice A n c] 40)) #[.bool t, .slice A' m d] rfl (by simp)).below ((Below.refl _ _).alloc (Nat.le_refl _) (.cells #[.bool false, .slice none 0 0] 40))).1
  have g_g0 := At.growS (b := (w.heap.size + 1 + 1)) ((At.boxc (i := 0) (v := .bool t) (t := 40) (b := w.heap.size + 1) (World.alloc w (.cells #[.bool s, .slice A n c] 40)) #[.bool t, .slice A' m d] rfl (by simp)).below ((Below.refl _ _).alloc (Nat.le_refl _) (.cells #[.bool false, .slice none 0 0] 40))) (by simp <;> omega)
  have e_f1 := (((At.boxc (i := 1) (v := .slice A n c) (t := 40) (b := w.heap.size) w #[.bool s, .slice A n c] rfl (by simp)).below ((Below.refl _ _).alloc (Nat.le_refl _) (.cells #[.bool t, .slice A' m d] 40))).below ((Below.refl _ _).alloc (Nat.le_refl _) (.cells #[.bool false, .slice none 0 0] 40))).1
  have g_f1 := At.growS (b := (w.heap.size + 1 + 1)) (((At.boxc (i := 1) (v := .slice A n c) (t := 40) (b := w.heap.size) w #[.bool s, .slice A n c] rfl (by simp)).below ((Below.refl _ _).alloc (Nat.le_refl _) (.cells #[.bool t, .slice A' m d] 40))).below ((Below.refl _ _).alloc (Nat.le_refl _) (.cells #[.bool false, .slice none 0 0] 40))) (by simp <;> omega)
  have e_g1 := ((At.boxc (i := 1) (v := .slice A' m d) (t := 40) (b := w.heap.size + 1) (World.alloc w (.cells #[.bool s, .slice A n c] 40)) #[.bool t, .slice A' m d] rfl (by simp)).below ((Below.refl _ _).alloc (Nat.le_refl _) (.cells #[.bool false, .slice none 0 0] 40))).1
  have g_g1 := At.growS (b := (w.heap.size + 1 + 1)) ((At.boxc (i := 1) (v := .slice A' m d) (t := 40) (b := w.heap.size + 1) (World.alloc w (.cells #[.bool s, .slice A n c] 40)) #[.bool t, .slice A' m d] rfl (by simp)).below ((Below.refl _ _).alloc (Nat.le_refl _) (.cells #[.bool false, .slice none 0 0] 40))) (by simp <;> omega)
  refine wp_region_grow (some (w.heap.size + 1 + 1)) [(true, 0), (true, 1), (false, 2), (false, 3), (false, 4)] (by kernel_rfl) (by kernel_rfl) ?_
  repeat (refine ord_pas (by rfl) (fun K hK => ?_); go_simp; refine hK _ _ (fun w' hw' => (by first | (go_simp; done) | (go_simp; intro hh; cases hh))) ?_; clear hK K)
  (refine ord_call (by rfl) (fun K hK => ?_); go_simp; refine hK _ _ ?_; clear hK K)
  refine (neg5_any ((((H'.out.below ((Below.refl _ _).alloc (Nat.le_refl _) (.cells #[.bool s, .slice A n c] 40))).below ((Below.refl _ _).alloc (Nat.le_refl _) (.cells #[.bool t, .slice A' m d] 40))).below ((Below.refl _ _).alloc (Nat.le_refl _) (.cells #[.bool false, .slice none 0 0] 40))).below (Below.refl _ _).drew) rfl (by omega)).mono ?_
  rintro e w1 ⟨A_n, n_n, c_n, s_n, rfl, hs_n, o_n, hb1, l_n⟩
  refine ⟨_, rfl, Grow.of_below hb1, ?_⟩
  (refine ord_norm (fun K hK => ?_); go_simp; refine hK _ ?_; clear hK K)
  have HBW := Lib.hid hb1
  (refine ord_call (by rfl) (fun K hK => ?_); go_simp; refine hK _ _ ?_; clear hK K)
  refine (add5_any (((((H.out.below ((Below.refl _ _).alloc (Nat.le_refl _) (.cells #[.bool s, .slice A n c] 40))).below ((Below.refl _ _).alloc (Nat.le_refl _) (.cells #[.bool t, .slice A' m d] 40))).below ((Below.refl _ _).alloc (Nat.le_refl _) (.cells #[.bool false, .slice none 0 0] 40))).below (Below.refl _ _).drew).below hb1) (o_n.num l_n) rfl (sg_of hs_n.out) hL1 hM1 (by omega) (by omega)).mono ?_
  rintro e w2 ⟨A_r, n_r, c_r, s_r, rfl, hs_r, o_r, hb2, l_r⟩
  refine ⟨_, rfl, Grow.of_below hb2, ?_⟩
  (refine ord_norm (fun K hK => ?_); go_simp; refine hK _ ?_; clear hK K)
  have c1 := ((((Cel.box (i := 0) (v := .bool false) (t := 40) (b := w.heap.size + 1 + 1) (World.alloc (World.alloc w (.cells #[.bool s, .slice A n c] 40)) (.cells #[.bool t, .slice A' m d] 40)) #[.bool false, .slice none 0 0] rfl (by simp)).below (Below.refl _ _).drew).below hb1).below hb2)
  have c2 := ((((Cel.box (i := 1) (v := .slice none 0 0) (t := 40) (b := w.heap.size + 1 + 1) (World.alloc (World.alloc w (.cells #[.bool s, .slice A n c] 40)) (.cells #[.bool t, .slice A' m d] 40)) #[.bool false, .slice none 0 0] rfl (by simp)).below (Below.refl _ _).drew).below hb1).below hb2)
  obtain ⟨c1a, c1b, c1c⟩ := c1
  obtain ⟨c2a, c2b, c2c⟩ := c2
  (refine ord_act (by rfl) (fun K hK => ?_); go_simp)
  refine hK _ _ ⟨Grow.trans _ _ _ _ (Grow.set rfl _) (Grow.set rfl _), ?_⟩
  clear hK K
  refine ord_nil ?_
  have HO := Lib.hid o_r
  have HB := Lib.hid (bt (bt (bt (bt (bt ((Below.refl _ _).alloc (Nat.le_refl _) (.cells #[.bool s, .slice A n c] 40)) ((Below.refl _ _).alloc (Nat.le_refl _) (.cells #[.bool t, .slice A' m d] 40))) ((Below.refl _ _).alloc (Nat.le_refl _) (.cells #[.bool false, .slice none 0 0] 40))) (Below.refl _ _).drew) hb1) hb2)
  go_wp2
  refine bodyPost_ret (v := .agg #[.bool s_r, .slice A_r n_r c_r]) (by simp [results, Tryz.results60, go_sem, c1a, c2a]) rfl ?_
  refine GI.eq (gi_fin (L := (max L M + 1)) (wb := w1) hs_r HO.out HB.out ?_ (by omega)) (Int.sub_eq_add_neg.symm)
  refine ⟨by omega, ?_⟩
  have := HBW.out.size
  simp at this
  omega
theorem sg_exact {s t : Bool} {x y : Nat} {k : Int} (h : sg s x = k * sg t y) (hy : 0 < y) : sg (s != t) (x / y) = k := by
  have hk : x = k.natAbs * y := by
    have := congrArg Int.natAbs h
    rwa [sg_abs, Int.natAbs_mul, sg_abs] at this
  rw [hk, Nat.mul_div_cancel _ hy]
  have e2 : sg (s != t) k.natAbs * sg t y = k * sg t y := by
    rw [← h, hk, ← sg_mul]
    cases s <;> cases t <;> rfl
  have hy0 : sg t y ≠ 0 := by unfold sg; split <;> omega
  exact Int.eq_of_mul_eq_mul_right hy0 e2
set_option maxHeartbeats 1000000 in
theorem exact5_any {A A' : Option Addr} {n c m d x y L M : Nat} {s t : Bool} {k : Int} {w : World} (h : Num w (.slice A n c) x L) (h' : Num w (.slice A' m d) y M) (hk : sg s x = k * sg t y) (hy : 0 < y) (hL1 : 1 ≤ L) (hM1 : 1 ≤ M) (hL : L ≤ 8589934592) (hM : M ≤ 8589934592) :
    Calls Tryz.prog 59 #[.agg #[.bool s, .slice A n c], .agg #[.bool t, .slice A' m d]] w (GI w k L) := by
  have HK := Lib.hid (sg_exact hk hy)
  have HY := Lib.hid hy
  obtain ⟨st, hst⟩ : ∃ st, st = (s != t) := ⟨_, rfl⟩
  rw [← hst] at HK
  have q0 : (s != t) = st := hst.symm
  have q1 : (!(s == t)) = st := hst.symm
  clear hk hy hst
  have H := Lib.hid h
  have H' := Lib.hid h'
  clear h h'
  go_enter Tryz.func59, Tryz.ntmps59
  have e0 := (((At.boxc (i := 0) (v := .bool s) (t := 40) (b := w.heap.size) w #[.bool s, .slice A n c] rfl (by simp)).below ((Below.refl _ _).alloc (Nat.le_refl _) (.cells #[.bool t, .slice A' m d] 40))).below ((Below.refl _ _).alloc (Nat.le_refl _) (.cells #[.bool false, .slice none 0 0] 40))).1
  have e1 := (((At.boxc (i := 1) (v := .slice A n c) (t := 40) (b := w.heap.size) w #[.bool s, .slice A n c] rfl (by simp)).below ((Below.refl _ _).alloc (Nat.le_refl _) (.cells #[.bool t, .slice A' m d] 40))).below ((Below.refl _ _).alloc (Nat.le_refl _) (.cells #[.bool false, .slice none 0 0] 40))).1
  have e2 := ((At.boxc (i := 0) (v := .bool t) (t := 40) (b := w.heap.size + 1) (World.alloc w (.cells #[.bool s, .slice A n c] 40)) #[.bool t, .slice A' m d] rfl (by simp)).below ((Below.refl _ _).alloc (Nat.le_refl _) (.cells #[.bool false, .slice none 0 0] 40))).1
  have e3 := ((At.boxc (i := 1) (v := .slice A' m d) (t := 40) (b := w.heap.size + 1) (World.alloc w (.cells #[.bool s, .slice A n c] 40)) #[.bool t, .slice A' m d] rfl (by simp)).below ((Below.refl _ _).alloc (Nat.le_refl _) (.cells #[.bool false, .slice none 0 0] 40))).1
  go_wp2_with fail
  refine (quo5_any (((H.out.below ((Below.refl _ _).alloc (Nat.le_refl _) (.cells #[.bool s, .slice A n c] 40))).below ((Below.refl _ _).alloc (Nat.le_refl _) (.cells #[.bool t, .slice A' m d] 40))).below ((Below.refl _ _).alloc (Nat.le_refl _) (.cells #[.bool false, .slice none 0 0] 40))) (((H'.out.below ((Below.refl _ _).alloc (Nat.le_refl _) (.cells #[.bool s, .slice A n c] 40))).below ((Below.refl _ _).alloc (Nat.le_refl _) (.cells #[.bool t, .slice A' m d] 40))).below ((Below.refl _ _).alloc (Nat.le_refl _) (.cells #[.bool false, .slice none 0 0] 40))) HY.out (by omega) (by omega) hL1 hM1).mono ?_
  rintro e w1 ⟨A_q, n_q, c_q, A_rr, n_rr, c_rr, rfl, o_q, o_rr, hb1, l_q, l_rr⟩
  have HBW := Lib.hid (bt (bt (bt ((Below.refl _ _).alloc (Nat.le_refl _) (.cells #[.bool s, .slice A n c] 40)) ((Below.refl _ _).alloc (Nat.le_refl _) (.cells #[.bool t, .slice A' m d] 40))) ((Below.refl _ _).alloc (Nat.le_refl _) (.cells #[.bool false, .slice none 0 0] 40))) hb1)
  clear e0 e1 e2 e3
  have e0 := ((((At.boxc (i := 0) (v := .bool s) (t := 40) (b := w.heap.size) w #[.bool s, .slice A n c] rfl (by simp)).below ((Below.refl _ _).alloc (Nat.le_refl _) (.cells #[.bool t, .slice A' m d] 40))).below ((Below.refl _ _).alloc (Nat.le_refl _) (.cells #[.bool false, .slice none 0 0] 40))).below hb1).1
  have e1 := ((((At.boxc (i := 1) (v := .slice A n c) (t := 40) (b := w.heap.size) w #[.bool s, .slice A n c] rfl (by simp)).below ((Below.refl _ _).alloc (Nat.le_refl _) (.cells #[.bool t, .slice A' m d] 40))).below ((Below.refl _ _).alloc (Nat.le_refl _) (.cells #[.bool false, .slice none 0 0] 40))).below hb1).1
  have e2 := (((At.boxc (i := 0) (v := .bool t) (t := 40) (b := w.heap.size + 1) (World.alloc w (.cells #[.bool s, .slice A n c] 40)) #[.bool t, .slice A' m d] rfl (by simp)).below ((Below.refl _ _).alloc (Nat.le_refl _) (.cells #[.bool false, .slice none 0 0] 40))).below hb1).1
  have e3 := (((At.boxc (i := 1) (v := .slice A' m d) (t := 40) (b := w.heap.size + 1) (World.alloc w (.cells #[.bool s, .slice A n c] 40)) #[.bool t, .slice A' m d] rfl (by simp)).below ((Below.refl _ _).alloc (Nat.le_refl _) (.cells #[.bool false, .slice none 0 0] 40))).below hb1).1
  go_wp2_with fail
  refine (I5_any (s := st) (o_q.num l_q) (by omega)).mono ?_
  rintro e w2 ⟨A_r, n_r, c_r, s_r, rfl, hs_r, o_r, hb2, l_r⟩
  clear e0 e1 e2 e3
  have c1 := (((Cel.box (i := 0) (v := .bool false) (t := 40) (b := w.heap.size + 1 + 1) (World.alloc (World.alloc w (.cells #[.bool s, .slice A n c] 40)) (.cells #[.bool t, .slice A' m d] 40)) #[.bool false, .slice none 0 0] rfl (by simp)).below hb1).below hb2)
  have c2 := (((Cel.box (i := 1) (v := .slice none 0 0) (t := 40) (b := w.heap.size + 1 + 1) (World.alloc (World.alloc w (.cells #[.bool s, .slice A n c] 40)) (.cells #[.bool t, .slice A' m d] 40)) #[.bool false, .slice none 0 0] rfl (by simp)).below hb1).below hb2)
  obtain ⟨c1a, c1b, c1c⟩ := c1
  obtain ⟨c2a, c2b, c2c⟩ := c2
  have HO := Lib.hid o_r
  have HB := Lib.hid (bt (bt (bt (bt ((Below.refl _ _).alloc (Nat.le_refl _) (.cells #[.bool s, .slice A n c] 40)) ((Below.refl _ _).alloc (Nat.le_refl _) (.cells #[.bool t, .slice A' m d] 40))) ((Below.refl _ _).alloc (Nat.le_refl _) (.cells #[.bool false, .slice none 0 0] 40))) hb1) hb2)
  go_wp2
  refine bodyPost_ret (v := .agg #[.bool s_r, .slice A_r n_r c_r]) (by simp [results, Tryz.results59, go_sem, c1a, c2a]) rfl ?_
  refine GI.eq (gi_fin hs_r HO.out HB.out ?_ (by omega)) HK.out
  refine ⟨by omega, ?_⟩
  have := hb1.size
  simp at this
  omega
theorem mod_pos {x m : Nat} : (((x : Int) % (m : Int)).toNat) = x % m := by
  rw [← Int.natCast_emod, Int.toNat_natCast]
theorem mod_neg0 {x m : Nat} (h : x % m = 0) : ((-(x : Int) % (m : Int)).toNat) = x % m := by
  have h1 : (m : Int) ∣ -(x : Int) := Int.dvd_neg.2 (Int.natCast_dvd_natCast.2 (Nat.dvd_of_mod_eq_zero h))
  rw [Int.emod_eq_zero_of_dvd h1, h]; rfl
theorem mod_negp {x m : Nat} (hm : 0 < m) (h : 0 < x % m) : ((-(x : Int) % (m : Int)).toNat) = m - x % m := by
  have hlt := Nat.mod_lt x hm
  have e : (x : Int) = (m : Int) * ((x / m : Nat) : Int) + ((x % m : Nat) : Int) := by rw [← Int.natCast_mul, ← Int.natCast_add, Nat.div_add_mod]
  have e2 : -(x : Int) = ((m - x % m : Nat) : Int) + (m : Int) * (-((x / m : Nat) : Int) - 1) := by
    rw [Int.natCast_sub (Nat.le_of_lt hlt), Int.mul_sub, Int.mul_neg]; omega
  rw [e2, Int.add_mul_emod_self_left, Int.emod_eq_of_lt (by omega) (by omega), Int.toNat_natCast]
set_option maxHeartbeats 1000000 in
theorem mod5_pos {A : Option Addr} {n c x m L M : Nat} {u : Value} {w : World} (h : Num w (.slice A n c) x L) (h' : Num w u m M) (hm : 0 < m) (hL1 : 1 ≤ L) (hM1 : 1 ≤ M) (hL : L ≤ 8589934592) (hM : M ≤ 8589934592) :
    Calls Tryz.prog 57 #[.agg #[.bool false, .slice A n c], u] w (GN w (x % m) M) := by
  have H := Lib.hid h
  have H' := Lib.hid h'
  have HM := Lib.hid hm
  obtain ⟨_, _, _, _, rfl, _⟩ := id h'
  clear h h' hm
  go_enter Tryz.func57, Tryz.ntmps57
  have e1 := (At.boxc (i := 1) (v := .slice A n c) (t := 40) (b := w.heap.size) w #[.bool false, .slice A n c] rfl (by simp)).1
  go_wp2_with fail
  refine (quo5_any (H.out.below ((Below.refl _ _).alloc (Nat.le_refl _) (.cells #[.bool false, .slice A n c] 40))) (H'.out.below ((Below.refl _ _).alloc (Nat.le_refl _) (.cells #[.bool false, .slice A n c] 40))) HM.out (by omega) (by omega) hL1 hM1).mono ?_
  rintro e w1 ⟨A_q, n_q, c_q, A_r, n_r, c_r, rfl, o_q, o_r, hb1, l_q, l_r⟩
  clear e1
  have e0 := ((At.boxc (i := 0) (v := .bool false) (t := 40) (b := w.heap.size) w #[.bool false, .slice A n c] rfl (by simp)).below hb1).1
  go_wp2
  go_ret
  exact ⟨_, _, _, rfl, (o_r.mono ((Below.refl _ _).alloc (Nat.le_refl _) (.cells #[.bool false, .slice A n c] 40)).size), (bt ((Below.refl _ _).alloc (Nat.le_refl _) (.cells #[.bool false, .slice A n c] 40)) hb1), l_r⟩
set_option maxHeartbeats 1000000 in
theorem mod5_neg0 {A : Option Addr} {n c x m L M : Nat} {u : Value} {w : World} (h : Num w (.slice A n c) x L) (h' : Num w u m M) (hm : 0 < m) (hr : x % m = 0) (hL1 : 1 ≤ L) (hM1 : 1 ≤ M) (hL : L ≤ 8589934592) (hM : M ≤ 8589934592) :
    Calls Tryz.prog 57 #[.agg #[.bool true, .slice A n c], u] w (GN w (x % m) M) := by
  have CZ : Hid (∀ (w : World) (v : Value), Num w v (x % m) M → Calls Tryz.prog 49 #[v] w (Keeps (.bool true) w)) := fun w v h => by
    have := zero5_any h (by omega)
    rwa [decide_eq_true hr] at this
  clear hr
  have H := Lib.hid h
  have H' := Lib.hid h'
  have HM := Lib.hid hm
  obtain ⟨_, _, _, _, rfl, _⟩ := id h'
  clear h h' hm
  go_enter Tryz.func57, Tryz.ntmps57
  have e1 := (At.boxc (i := 1) (v := .slice A n c) (t := 40) (b := w.heap.size) w #[.bool true, .slice A n c] rfl (by simp)).1
  go_wp2_with fail
  refine (quo5_any (H.out.below ((Below.refl _ _).alloc (Nat.le_refl _) (.cells #[.bool true, .slice A n c] 40))) (H'.out.below ((Below.refl _ _).alloc (Nat.le_refl _) (.cells #[.bool true, .slice A n c] 40))) HM.out (by omega) (by omega) hL1 hM1).mono ?_
  rintro e w1 ⟨A_q, n_q, c_q, A_r, n_r, c_r, rfl, o_q, o_r, hb1, l_q, l_r⟩
  clear e1
  have e0 := ((At.boxc (i := 0) (v := .bool true) (t := 40) (b := w.heap.size) w #[.bool true, .slice A n c] rfl (by simp)).below hb1).1
  go_wp2_with fail
  refine (CZ.out _ _ (o_r.num l_r)).mono ?_
  rintro e w2 ⟨rfl, hb2⟩
  go_wp2
  go_ret
  exact ⟨_, _, _, rfl, ((o_r.mono ((Below.refl _ _).alloc (Nat.le_refl _) (.cells #[.bool true, .slice A n c] 40)).size).below hb2), (bt (bt ((Below.refl _ _).alloc (Nat.le_refl _) (.cells #[.bool true, .slice A n c] 40)) hb1) hb2), l_r⟩
set_option maxHeartbeats 1000000 in
theorem mod5_negp {A : Option Addr} {n c x m L M : Nat} {u : Value} {w : World} (h : Num w (.slice A n c) x L) (h' : Num w u m M) (hm : 0 < m) (hr : 0 < x % m) (hL1 : 1 ≤ L) (hM1 : 1 ≤ M) (hL : L ≤ 8589934592) (hM : M ≤ 8589934592) :
    Calls Tryz.prog 57 #[.agg #[.bool true, .slice A n c], u] w (GN w (m - x % m) M) := by
  have CZ : Hid (∀ (w : World) (v : Value), Num w v (x % m) M → Calls Tryz.prog 49 #[v] w (Keeps (.bool false) w)) := fun w v h => by
    have := zero5_any h (by omega)
    rwa [decide_eq_false (by omega)] at this
  have HLE : Hid (x % m ≤ m) := Nat.le_of_lt (Nat.mod_lt x hm)
  clear hr
  have H := Lib.hid h
  have H' := Lib.hid h'
  have HM := Lib.hid hm
  obtain ⟨_, _, _, _, rfl, _⟩ := id h'
  clear h h' hm
  go_enter Tryz.func57, Tryz.ntmps57
  have e1 := (At.boxc (i := 1) (v := .slice A n c) (t := 40) (b := w.heap.size) w #[.bool true, .slice A n c] rfl (by simp)).1
  go_wp2_with fail
  refine (quo5_any (H.out.below ((Below.refl _ _).alloc (Nat.le_refl _) (.cells #[.bool true, .slice A n c] 40))) (H'.out.below ((Below.refl _ _).alloc (Nat.le_refl _) (.cells #[.bool true, .slice A n c] 40))) HM.out (by omega) (by omega) hL1 hM1).mono ?_
  rintro e w1 ⟨A_q, n_q, c_q, A_r, n_r, c_r, rfl, o_q, o_r, hb1, l_q, l_r⟩
  clear e1
  have e0 := ((At.boxc (i := 0) (v := .bool true) (t := 40) (b := w.heap.size) w #[.bool true, .slice A n c] rfl (by simp)).below hb1).1
  go_wp2_with fail
  refine (CZ.out _ _ (o_r.num l_r)).mono ?_
  rintro e w2 ⟨rfl, hb2⟩
  clear e0
  go_wp2_with fail
  refine (minus5_any (((H'.out.below ((Below.refl _ _).alloc (Nat.le_refl _) (.cells #[.bool true, .slice A n c] 40))).below hb1).below hb2) ((o_r.num l_r).below hb2) HLE.out hM1 (by omega) (by omega)).mono ?_
  rintro e w3 ⟨A_d, n_d, c_d, rfl, o_d, hb3, l_d⟩
  go_wp2
  go_ret
  exact ⟨_, _, _, rfl, (o_d.mono (bt (bt ((Below.refl _ _).alloc (Nat.le_refl _) (.cells #[.bool true, .slice A n c] 40)) hb1) hb2).size), (bt (bt (bt ((Below.refl _ _).alloc (Nat.le_refl _) (.cells #[.bool true, .slice A n c] 40)) hb1) hb2) hb3), l_d⟩
theorem mod5_any {A : Option Addr} {n c x m L M : Nat} {s : Bool} {z : Int} {u : Value} {w : World} (h : Num w (.slice A n c) x L) (h' : Num w u m M) (hz : sg s x = z) (hm : 0 < m) (hL1 : 1 ≤ L) (hM1 : 1 ≤ M) (hL : L ≤ 8589934592) (hM : M ≤ 8589934592) :
    Calls Tryz.prog 57 #[.agg #[.bool s, .slice A n c], u] w (GN w (z % (m : Int)).toNat M) := by
  subst hz
  cases s
  · rw [sg_false, mod_pos]; exact mod5_pos h h' hm hL1 hM1 hL hM
  · rw [sg_true]
    rcases Nat.eq_zero_or_pos (x % m) with hr | hr
    · rw [mod_neg0 hr]; exact mod5_neg0 h h' hm hr hL1 hM1 hL hM
    · rw [mod_negp hm hr]; exact mod5_negp h h' hm hr hL1 hM1 hL hM
end Go.Proofs.YtbamhgpadfojfaaGreat
namespace Go.Proofs.YtbamhgpadfojfaaGreat
open Go.RowKit
set_option linter.unusedVariables false

def SomeOk (a b : Nat) (z : Int) : Prop := (∃ k : Int, z * (a : Int) = (Nat.gcd a b : Int) + (b : Int) * k) ∧ z.natAbs ≤ max 1 b
theorem some_one {a b : Nat} (h : b % a = 0) : SomeOk a b 1 := by
  refine ⟨⟨0, ?_⟩, ?_⟩
  · rw [Nat.gcd_eq_left (Nat.dvd_of_mod_eq_zero h)]; omega
  · show 1 ≤ _; omega
theorem some_step {a b : Nat} {y k : Int} (ha : 0 < a) (hr : 0 < b % a) (h1 : y * ((b % a : Nat) : Int) = (Nat.gcd (b % a) a : Int) + (a : Int) * k) (h2 : y.natAbs ≤ max 1 a) :
    SomeOk a b (-(y * ((b / a : Nat) : Int) + k)) := by
  have hb : (b : Int) = (a : Int) * ((b / a : Nat) : Int) + ((b % a : Nat) : Int) := by rw [← Int.natCast_mul, ← Int.natCast_add, Nat.div_add_mod]
  have hbn : b = a * (b / a) + b % a := (Nat.div_add_mod b a).symm
  have hlt : b % a < a := Nat.mod_lt b ha
  have hG : Nat.gcd (b % a) a ≤ b % a := Nat.gcd_le_left a hr
  have hg : Nat.gcd a b = Nat.gcd (b % a) a := Nat.gcd_rec a b
  generalize b / a = q at *
  generalize b % a = r at *
  rw [SomeOk, hg]
  generalize Nat.gcd r a = G at *
  have h2 : y.natAbs ≤ a := by omega
  have hk : k.natAbs ≤ r := by
    rcases Nat.lt_or_ge r k.natAbs with h3 | h3
    · exfalso
      have e1 : a * (r + 1) ≤ a * k.natAbs := Nat.mul_le_mul_left _ h3
      have e2 : a * k.natAbs ≤ y.natAbs * r + G := by
        have e3 : (a : Int) * k = y * (r : Int) + -(G : Int) := by omega
        have e4 := congrArg Int.natAbs e3
        rw [Int.natAbs_mul, Int.natAbs_natCast] at e4
        rw [e4]
        refine Nat.le_trans (Int.natAbs_add_le _ _) ?_
        rw [Int.natAbs_mul, Int.natAbs_neg, Int.natAbs_natCast, Int.natAbs_natCast]
        exact Nat.le_refl _
      have e5 : y.natAbs * r ≤ a * r := Nat.mul_le_mul_right _ h2
      rw [Nat.mul_add] at e1
      omega
    · exact h3
  refine ⟨⟨-y, ?_⟩, ?_⟩
  · rw [hb]
    have e1 : -(y * (q : Int) + k) * (a : Int) = -((a : Int) * (q : Int) * y) - (a : Int) * k := by
      rw [Int.neg_mul, Int.add_mul, Int.mul_comm k, Int.mul_assoc, Int.mul_comm y, Int.mul_comm (q : Int)]; omega
    have e2 : ((a : Int) * (q : Int) + (r : Int)) * -y = -((a : Int) * (q : Int) * y) - y * (r : Int) := by
      rw [Int.mul_neg, Int.add_mul, Int.mul_comm (r : Int)]; omega
    rw [e1, e2, h1]
    omega
  · have e1 : (y * (q : Int) + k).natAbs ≤ a * q + r := by
      refine Nat.le_trans (Int.natAbs_add_le _ _) ?_
      rw [Int.natAbs_mul, Int.natAbs_natCast]
      have := Nat.mul_le_mul_right q h2
      omega
    rw [Int.natAbs_neg]
    omega
def GS (w : World) (a b K : Nat) (e : Ending) (w' : World) : Prop := ∃ z, SomeOk a b z ∧ GI w z K e w'
theorem some_lt {a b K : Nat} {z : Int} (h : SomeOk a b z) (hb : b < W ^ K) (hK : 1 ≤ K) : z.natAbs < W ^ K := by
  have h1 : W ^ 1 ≤ W ^ K := Nat.pow_le_pow_right W_pos hK
  have h2 := W_gt
  rw [Nat.pow_one] at h1
  have := h.2
  omega
set_option maxHeartbeats 8000000 in
set_option maxRecDepth 100000 in
theorem some5_any {K : Nat} (hK1 : 1 ≤ K) (hK : K ≤ 1000000) : ∀ (a : Nat) {v u : Value} {b : Nat} {w : World}, Num w v a K → Num w u b K → 0 < a → Calls Tryz.prog 58 #[v, u] w (GS w a b K) := by
  intro a
  induction a using Nat.strongRecOn with
  | _ a ih =>
    intro v u b w h h' ha
    have H := Lib.hid h
    have H' := Lib.hid h'
    have HA := Lib.hid ha
    have IH := Lib.hid ih
    have HLT := Lib.hid h'.lt
    obtain ⟨_, _, _, _, rfl, _⟩ := id h
    obtain ⟨_, _, _, _, rfl, _⟩ := id h'
    clear h h' ih
    by_cases hz : b = 0
    · have HZ : Hid (b % a = 0) := by rw [hz]; exact Nat.zero_mod _
      have q0 : decide (b = 0) = true := by simpa using hz
      clear hz ha
      go_enter Tryz.func58, Tryz.ntmps58
      go_wp2_with fail
      refine (zero5_any (H'.out.below ((Below.refl _ _).alloc (Nat.le_refl _) (.cells #[.bool false, .slice none 0 0] 40))) (by omega)).mono ?_
      rintro e w1 ⟨rfl, hb1⟩
      have HWB : Hid (w.heap.size < Array.size (World.heap (w1))) := ((Cel.box (i := 0) (v := .bool false) (t := 40) (b := w.heap.size) w #[.bool false, .slice none 0 0] rfl (by simp)).below hb1).2.2
      go_wp2_with fail
      refine (Z5_nat (x := 1) rfl (by omega)).mono ?_
      rintro e w2 ⟨A_r, n_r, c_r, s_r, rfl, hs_r, o_r, hb2, l_r⟩
      have c1 := (((Cel.box (i := 0) (v := .bool false) (t := 40) (b := w.heap.size) w #[.bool false, .slice none 0 0] rfl (by simp)).below hb1).below hb2)
      have c2 := (((Cel.box (i := 1) (v := .slice none 0 0) (t := 40) (b := w.heap.size) w #[.bool false, .slice none 0 0] rfl (by simp)).below hb1).below hb2)
      obtain ⟨c1a, c1b, c1c⟩ := c1
      obtain ⟨c2a, c2b, c2c⟩ := c2
      have HO := Lib.hid o_r
      have HB := Lib.hid (bt (bt ((Below.refl _ _).alloc (Nat.le_refl _) (.cells #[.bool false, .slice none 0 0] 40)) hb1) hb2)
      go_wp2
      refine bodyPost_ret (v := .agg #[.bool s_r, .slice A_r n_r c_r]) (by simp [results, Tryz.results58, go_sem, c1a, c2a]) rfl ?_
      refine ⟨1, some_one HZ.out, ?_⟩
      exact gi_fin hs_r HO.out HB.out ⟨Nat.le_refl _, HWB.out⟩ (by omega)
    · have q0 : decide (b = 0) = false := by simpa using hz
      rcases Nat.eq_zero_or_pos (b % a) with hr | hr
      · have HZ := Lib.hid hr
        have CZ : Hid (∀ (w : World) (v : Value), Num w v (b % a) K → Calls Tryz.prog 49 #[v] w (Keeps (.bool true) w)) := fun w v h => by
          have := zero5_any h (by omega)
          rwa [decide_eq_true hr] at this
        clear hz ha hr
        go_enter Tryz.func58, Tryz.ntmps58
        go_wp2_with fail
        refine (zero5_any (H'.out.below ((Below.refl _ _).alloc (Nat.le_refl _) (.cells #[.bool false, .slice none 0 0] 40))) (by omega)).mono ?_
        rintro e w3 ⟨rfl, hb3⟩
        go_wp2_with fail
        refine (quo5_any ((H'.out.below ((Below.refl _ _).alloc (Nat.le_refl _) (.cells #[.bool false, .slice none 0 0] 40))).below hb3) ((H.out.below ((Below.refl _ _).alloc (Nat.le_refl _) (.cells #[.bool false, .slice none 0 0] 40))).below hb3) HA.out (by omega) (by omega) (by omega) (by omega)).mono ?_
        rintro e w4 ⟨A_q, n_q, c_q, A_rr, n_rr, c_rr, rfl, o_q, o_rr, hb4, l_q, l_rr⟩
        go_wp2_with fail
        refine (CZ.out _ _ (o_rr.num l_rr)).mono ?_
        rintro e w5 ⟨rfl, hb5⟩
        have HWB : Hid (w.heap.size < Array.size (World.heap (w5))) := ((((Cel.box (i := 0) (v := .bool false) (t := 40) (b := w.heap.size) w #[.bool false, .slice none 0 0] rfl (by simp)).below hb3).below hb4).below hb5).2.2
        go_wp2_with fail
        refine (Z5_nat (x := 1) rfl (by omega)).mono ?_
        rintro e w6 ⟨A_r, n_r, c_r, s_r, rfl, hs_r, o_r, hb6, l_r⟩
        have c1 := (((((Cel.box (i := 0) (v := .bool false) (t := 40) (b := w.heap.size) w #[.bool false, .slice none 0 0] rfl (by simp)).below hb3).below hb4).below hb5).below hb6)
        have c2 := (((((Cel.box (i := 1) (v := .slice none 0 0) (t := 40) (b := w.heap.size) w #[.bool false, .slice none 0 0] rfl (by simp)).below hb3).below hb4).below hb5).below hb6)
        obtain ⟨c1a, c1b, c1c⟩ := c1
        obtain ⟨c2a, c2b, c2c⟩ := c2
        have HO := Lib.hid o_r
        have HB := Lib.hid (bt (bt (bt (bt ((Below.refl _ _).alloc (Nat.le_refl _) (.cells #[.bool false, .slice none 0 0] 40)) hb3) hb4) hb5) hb6)
        go_wp2
        refine bodyPost_ret (v := .agg #[.bool s_r, .slice A_r n_r c_r]) (by simp [results, Tryz.results58, go_sem, c1a, c2a]) rfl ?_
        refine ⟨1, some_one HZ.out, ?_⟩
        exact gi_fin hs_r HO.out HB.out ⟨Nat.le_refl _, HWB.out⟩ (by omega)
      · have HR := Lib.hid hr
        have CZ : Hid (∀ (w : World) (v : Value), Num w v (b % a) K → Calls Tryz.prog 49 #[v] w (Keeps (.bool false) w)) := fun w v h => by
          have := zero5_any h (by omega)
          rwa [decide_eq_false (by omega)] at this
        have HML : Hid (b % a < a) := Nat.mod_lt _ ha
        clear hz ha hr
        go_enter Tryz.func58, Tryz.ntmps58
        go_wp2_with fail
        refine (zero5_any (H'.out.below ((Below.refl _ _).alloc (Nat.le_refl _) (.cells #[.bool false, .slice none 0 0] 40))) (by omega)).mono ?_
        rintro e w7 ⟨rfl, hb7⟩
        go_wp2_with fail
        refine (quo5_any ((H'.out.below ((Below.refl _ _).alloc (Nat.le_refl _) (.cells #[.bool false, .slice none 0 0] 40))).below hb7) ((H.out.below ((Below.refl _ _).alloc (Nat.le_refl _) (.cells #[.bool false, .slice none 0 0] 40))).below hb7) HA.out (by omega) (by omega) (by omega) (by omega)).mono ?_
        rintro e w8 ⟨A_q, n_q, c_q, A_rr, n_rr, c_rr, rfl, o_q, o_rr, hb8, l_q, l_rr⟩
        go_wp2_with fail
        refine (CZ.out _ _ (o_rr.num l_rr)).mono ?_
        rintro e w9 ⟨rfl, hb9⟩
        go_wp2_with fail
        refine (IH.out _ HML.out ((o_rr.num l_rr).below hb9) ((((H.out.below ((Below.refl _ _).alloc (Nat.le_refl _) (.cells #[.bool false, .slice none 0 0] 40))).below hb7).below hb8).below hb9) HR.out).mono ?_
        rintro e wy ⟨y, hy, A_y, n_y, c_y, s_y, rfl, hs_y, o_y, hby, l_y⟩
        obtain ⟨⟨k, hy1⟩, hy2⟩ := hy
        have HY := Lib.hid (And.intro hy1 hy2)
        have HSO := Lib.hid (some_step HA.out HR.out hy1 hy2)
        clear hy1 hy2
        have hwy : w.heap.size < wy.heap.size := (((((Cel.box (i := 0) (v := .bool false) (t := 40) (b := w.heap.size) w #[.bool false, .slice none 0 0] rfl (by simp)).below hb7).below hb8).below hb9).below hby).2.2
        go_wp2_with fail
        refine (gcd5_any (K := K) ((((o_rr.num l_rr).below hb9).below hby).below ((Below.refl _ _).alloc (Nat.le_refl _) (.cells #[.bool s_y, .slice A_y n_y c_y] 40))) ((((((H.out.below ((Below.refl _ _).alloc (Nat.le_refl _) (.cells #[.bool false, .slice none 0 0] 40))).below hb7).below hb8).below hb9).below hby).below ((Below.refl _ _).alloc (Nat.le_refl _) (.cells #[.bool s_y, .slice A_y n_y c_y] 40))) (by omega) (by omega) (by omega) (by omega)).mono ?_
        rintro e w10 ⟨A_g, n_g, c_g, rfl, o_g, hb10, l_g⟩
        have hw8 : w.heap.size < Array.size (World.heap (w10)) := (((((((Cel.box (i := 0) (v := .bool false) (t := 40) (b := w.heap.size) w #[.bool false, .slice none 0 0] rfl (by simp)).below hb7).below hb8).below hb9).below hby).below ((Below.refl _ _).alloc (Nat.le_refl _) (.cells #[.bool s_y, .slice A_y n_y c_y] 40))).below hb10).2.2
        go_wp2_with fail
        have e_y0 := ((At.boxc (i := 0) (v := .bool s_y) (t := 40) (b := wy.heap.size) wy #[.bool s_y, .slice A_y n_y c_y] rfl (by simp)).below hb10).1
        have g_y0 := At.growB ((At.boxc (i := 0) (v := .bool s_y) (t := 40) (b := wy.heap.size) wy #[.bool s_y, .slice A_y n_y c_y] rfl (by simp)).below hb10)
        have e_y1 := ((At.boxc (i := 1) (v := .slice A_y n_y c_y) (t := 40) (b := wy.heap.size) wy #[.bool s_y, .slice A_y n_y c_y] rfl (by simp)).below hb10).1
        have g_y1 := At.growB ((At.boxc (i := 1) (v := .slice A_y n_y c_y) (t := 40) (b := wy.heap.size) wy #[.bool s_y, .slice A_y n_y c_y] rfl (by simp)).below hb10)
        refine wp_region_fltR (KB (w10).heap.size) (KB.refl _) (KB.trans _) (KB.of_grow _) [(0, 0), (0, 1), (0, 4), (0, 7), (2, 10), (1, 2), (1, 3), (1, 5), (1, 6), (1, 8), (1, 9), (4, 10), (3, 11)] (by kernel_rfl) (by kernel_rfl) ?_
        repeat (refine flt_pas (by rfl) (fun K hK => ?_); go_simp; refine hK _ _ (fun w' hw' => (by first | (go_simp; done) | (go_simp; intro hh; cases hh))) ?_; clear hK K)
        refine flt_alloc ((World.drew w10).heap.size) 40 #[.bool false, .slice none 0 0] (by rfl) rfl (fun w1 => (by go_simp)) (Nat.le_refl _) ?_
        refine flt_call (by rfl) (fun w11 hw11 K hK => ?_); go_simp; refine hK _ _ ?_; clear hK K
        refine (I5_any (s := false) (((((((o_rr.num l_rr).below hb9).below hby).below ((Below.refl _ _).alloc (Nat.le_refl _) (.cells #[.bool s_y, .slice A_y n_y c_y] 40))).below hb10).below (below_drewN _ 1)).below hw11.below) (by omega)).mono ?_
        rintro e w12 ⟨A_i1, n_i1, c_i1, s_i1, rfl, hs_i1, o_i1, hb12, l_i1⟩
        refine ⟨_, rfl, Grow.of_below hb12, ?_⟩
        (refine flt_norm (fun K hK => ?_); go_simp; refine hK _ ?_; clear hK K)
        refine flt_call (by rfl) (fun w13 hw13 K hK => ?_); go_simp; refine hK _ _ ?_; clear hK K
        refine (mul5_any (((((((o_y.num l_y).below ((Below.refl _ _).alloc (Nat.le_refl _) (.cells #[.bool s_y, .slice A_y n_y c_y] 40))).below hb10).below (below_drewN _ 1)).below hw11.below).below hb12).below hw13.below) ((o_i1.num l_i1).below hw13.below) (sg_of hs_y.out) (sg_of hs_i1.out) (by omega) (by omega)).mono ?_
        rintro e w14 ⟨A_m1, n_m1, c_m1, s_m1, rfl, hs_m1, o_m1, hb14, l_m1⟩
        refine ⟨_, rfl, Grow.of_below hb14, ?_⟩
        (refine flt_norm (fun K hK => ?_); go_simp; refine hK _ ?_; clear hK K)
        refine flt_call (by rfl) (fun w15 hw15 K hK => ?_); go_simp; refine hK _ _ ?_; clear hK K
        refine (I5_any (s := false) (((((((o_g.num l_g).below (below_drewN _ 1)).below hw11.below).below hb12).below hw13.below).below hb14).below hw15.below) (by omega)).mono ?_
        rintro e w16 ⟨A_i2, n_i2, c_i2, s_i2, rfl, hs_i2, o_i2, hb16, l_i2⟩
        refine ⟨_, rfl, Grow.of_below hb16, ?_⟩
        (refine flt_norm (fun K hK => ?_); go_simp; refine hK _ ?_; clear hK K)
        refine flt_call (by rfl) (fun w17 hw17 K hK => ?_); go_simp; refine hK _ _ ?_; clear hK K
        refine (sub5_any ((((o_m1.num l_m1).below hw15.below).below hb16).below hw17.below) ((o_i2.num l_i2).below hw17.below) (sg_of hs_m1.out) (sg_of hs_i2.out) (by omega) (by omega) (by omega) (by omega)).mono ?_
        rintro e w18 ⟨A_d1, n_d1, c_d1, s_d1, rfl, hs_d1, o_d1, hb18, l_d1⟩
        refine ⟨_, rfl, Grow.of_below hb18, ?_⟩
        (refine flt_norm (fun K hK => ?_); go_simp; refine hK _ ?_; clear hK K)
        refine flt_call (by rfl) (fun w19 hw19 K hK => ?_); go_simp; refine hK _ _ ?_; clear hK K
        refine (I5_any (s := false) (((((((((((((((((H.out.below ((Below.refl _ _).alloc (Nat.le_refl _) (.cells #[.bool false, .slice none 0 0] 40))).below hb7).below hb8).below hb9).below hby).below ((Below.refl _ _).alloc (Nat.le_refl _) (.cells #[.bool s_y, .slice A_y n_y c_y] 40))).below hb10).below (below_drewN _ 1)).below hw11.below).below hb12).below hw13.below).below hb14).below hw15.below).below hb16).below hw17.below).below hb18).below hw19.below) (by omega)).mono ?_
        rintro e w20 ⟨A_i3, n_i3, c_i3, s_i3, rfl, hs_i3, o_i3, hb20, l_i3⟩
        refine ⟨_, rfl, Grow.of_below hb20, ?_⟩
        (refine flt_norm (fun K hK => ?_); go_simp; refine hK _ ?_; clear hK K)
        refine flt_call (by rfl) (fun w21 hw21 K hK => ?_); go_simp; refine hK _ _ ?_; clear hK K
        refine (exact5_any ((((o_d1.num l_d1).below hw19.below).below hb20).below hw21.below) ((o_i3.num l_i3).below hw21.below) (k := k) (by rw [(sg_of hs_d1.out), (sg_of hs_i3.out), sg_false, sg_false, sg_false, HY.out.1]; rw [Int.mul_comm (a : Int)]; omega) (by rw [sg_false]; exact HA.out) (by omega) (by omega) (by omega) (by omega)).mono ?_
        rintro e w22 ⟨A_x1, n_x1, c_x1, s_x1, rfl, hs_x1, o_x1, hb22, l_x1⟩
        refine ⟨_, rfl, Grow.of_below hb22, ?_⟩
        (refine flt_norm (fun K hK => ?_); go_simp; refine hK _ ?_; clear hK K)
        refine flt_land (by rfl) (fun v_zb w23 hw23 hF => ?_)
        obtain ⟨b_zb, rfl, hB_zb, hc_zb⟩ := hF
        (refine flt_norm (fun K hK => ?_); go_simp; refine hK _ ?_; clear hK K)
        obtain ⟨cz1, cz2, cz3⟩ := cel_of hc_zb (j := 0) rfl
        obtain ⟨cz4, cz5, cz6⟩ := cel_of hc_zb (j := 1) rfl
        (refine flt_actX (by rfl) (fun K hK => ?_); go_simp)
        refine hK _ _ ⟨KB.set2 hB_zb, ?_⟩
        clear hK K
        repeat (refine flt_pas (by rfl) (fun K hK => ?_); go_simp; refine hK _ _ (fun w' hw' => (by first | (go_simp; done) | (go_simp; intro hh; cases hh))) ?_; clear hK K)
        refine flt_nil ?_
        clear g_y0 e_y0 g_y1 e_y1
        have HKX : Hid (Own .u64 49 _ (w23) A_x1 n_x1 c_x1 (dg W k.natAbs) ∧ Below ((World.drew w10)).heap.size ((World.drew w10)) (w23)) := ⟨(o_x1.below hw23.below), (bt (bt (bt (bt (bt (bt (bt (bt (bt (bt (bt (bt hw11.below hb12) hw13.below) hb14) hw15.below) hb16) hw17.below) hb18) hw19.below) hb20) hw21.below) hb22) hw23.below)⟩
        obtain ⟨wz, hwz⟩ : ∃ wz : World, wz = ((w23).setCell ⟨b_zb, 0, none⟩ (.bool s_x1)).setCell ⟨b_zb, 1, none⟩ (.slice A_x1 n_x1 c_x1) := ⟨_, rfl⟩
        rw [← hwz]
        have HZ : Hid (Below ((World.drew w10)).heap.size ((World.drew w10)) wz ∧ At wz ⟨b_zb, 0, none⟩ (.bool s_x1) ∧ At wz ⟨b_zb, 1, none⟩ (.slice A_x1 n_x1 c_x1) ∧ Num wz (.slice A_x1 n_x1 c_x1) k.natAbs (max (max 1 (K + K)) K + 1)) := by
          rw [hwz]
          refine ⟨((HKX.out.2).setCell (p := ⟨b_zb, 0, none⟩) hB_zb _).setCell (p := ⟨b_zb, 1, none⟩) hB_zb _, Cel.at ((Cel.put ⟨cz1, cz2, cz3⟩).set (by simp)), Cel.at ((Cel.set ⟨cz4, cz5, cz6⟩ (by simp)).put), ?_⟩
          have hb : BoxT 40 b_zb _ := ⟨_, _, hc_zb⟩
          exact ((HKX.out.1.set_ty (p := ⟨b_zb, 0, none⟩) hb (by decide)).set_ty (p := ⟨b_zb, 1, none⟩) hb.set (by decide)).num l_x1
        clear HKX
        have hzb : w.heap.size < b_zb := Nat.lt_of_lt_of_le hw8 hB_zb
        clear cz1 cz2 cz3 cz4 cz5 cz6 hwz hc_zb o_i1 o_m1 o_i2 o_d1 o_i3 o_x1
        go_wp2_with fail
        have e_y0 := ((((At.boxc (i := 0) (v := .bool s_y) (t := 40) (b := wy.heap.size) wy #[.bool s_y, .slice A_y n_y c_y] rfl (by simp)).below hb10).below (below_drewN _ 1)).below HZ.out.1).1
        have g_y0 := At.growS (b := w.heap.size) ((((At.boxc (i := 0) (v := .bool s_y) (t := 40) (b := wy.heap.size) wy #[.bool s_y, .slice A_y n_y c_y] rfl (by simp)).below hb10).below (below_drewN _ 1)).below HZ.out.1) (by simp <;> omega)
        have e_y1 := ((((At.boxc (i := 1) (v := .slice A_y n_y c_y) (t := 40) (b := wy.heap.size) wy #[.bool s_y, .slice A_y n_y c_y] rfl (by simp)).below hb10).below (below_drewN _ 1)).below HZ.out.1).1
        have g_y1 := At.growS (b := w.heap.size) ((((At.boxc (i := 1) (v := .slice A_y n_y c_y) (t := 40) (b := wy.heap.size) wy #[.bool s_y, .slice A_y n_y c_y] rfl (by simp)).below hb10).below (below_drewN _ 1)).below HZ.out.1) (by simp <;> omega)
        have e_z0 := HZ.out.2.1.1
        have g_z0 := At.growS (b := w.heap.size) HZ.out.2.1 (by simp <;> omega)
        have e_z1 := HZ.out.2.2.1.1
        have g_z1 := At.growS (b := w.heap.size) HZ.out.2.2.1 (by simp <;> omega)
        refine wp_region_grow (some w.heap.size) [(true, 0), (true, 1), (true, 4), (false, 2), (false, 3), (false, 5), (false, 6), (false, 7)] (by kernel_rfl) (by kernel_rfl) ?_
        repeat (refine ord_pas (by rfl) (fun K hK => ?_); go_simp; refine hK _ _ (fun w' hw' => (by first | (go_simp; done) | (go_simp; intro hh; cases hh))) ?_; clear hK K)
        (refine ord_call (by rfl) (fun K hK => ?_); go_simp; refine hK _ _ ?_; clear hK K)
        refine (I5_any (s := false) ((((((((o_q.num l_q).below hb9).below hby).below ((Below.refl _ _).alloc (Nat.le_refl _) (.cells #[.bool s_y, .slice A_y n_y c_y] 40))).below hb10).below (below_drewN _ 1)).below HZ.out.1).below (Below.refl _ _).drew) (by omega)).mono ?_
        rintro e w24 ⟨A_j1, n_j1, c_j1, s_j1, rfl, hs_j1, o_j1, hb24, l_j1⟩
        refine ⟨_, rfl, Grow.of_below hb24, ?_⟩
        (refine ord_norm (fun K hK => ?_); go_simp; refine hK _ ?_; clear hK K)
        (refine ord_call (by rfl) (fun K hK => ?_); go_simp; refine hK _ _ ?_; clear hK K)
        refine (mul5_any (((((((o_y.num l_y).below ((Below.refl _ _).alloc (Nat.le_refl _) (.cells #[.bool s_y, .slice A_y n_y c_y] 40))).below hb10).below (below_drewN _ 1)).below HZ.out.1).below (Below.refl _ _).drew).below hb24) (o_j1.num l_j1) (sg_of hs_y.out) (sg_of hs_j1.out) (by omega) (by omega)).mono ?_
        rintro e w25 ⟨A_m2, n_m2, c_m2, s_m2, rfl, hs_m2, o_m2, hb25, l_m2⟩
        refine ⟨_, rfl, Grow.of_below hb25, ?_⟩
        (refine ord_norm (fun K hK => ?_); go_simp; refine hK _ ?_; clear hK K)
        (refine ord_call (by rfl) (fun K hK => ?_); go_simp; refine hK _ _ ?_; clear hK K)
        refine (add5_any (o_m2.num l_m2) (((HZ.out.2.2.2.below (Below.refl _ _).drew).below hb24).below hb25) (sg_of hs_m2.out) (sg_of hs_x1.out) (by omega) (by omega) (by omega) (by omega)).mono ?_
        rintro e w26 ⟨A_s1, n_s1, c_s1, s_s1, rfl, hs_s1, o_s1, hb26, l_s1⟩
        refine ⟨_, rfl, Grow.of_below hb26, ?_⟩
        (refine ord_norm (fun K hK => ?_); go_simp; refine hK _ ?_; clear hK K)
        have HWB : Hid (w.heap.size < Array.size (World.heap (w26))) := (((((((((((((Cel.box (i := 0) (v := .bool false) (t := 40) (b := w.heap.size) w #[.bool false, .slice none 0 0] rfl (by simp)).below hb7).below hb8).below hb9).below hby).below ((Below.refl _ _).alloc (Nat.le_refl _) (.cells #[.bool s_y, .slice A_y n_y c_y] 40))).below hb10).below (below_drewN _ 1)).below HZ.out.1).below (Below.refl _ _).drew).below hb24).below hb25).below hb26).2.2
        (refine ord_call (by rfl) (fun K hK => ?_); go_simp; refine hK _ _ ?_; clear hK K)
        refine (neg5_any (o_s1.num l_s1) (sg_of hs_s1.out) (by omega)).mono ?_
        rintro e w27 ⟨A_r, n_r, c_r, s_r, rfl, hs_r, o_r, hb27, l_r⟩
        refine ⟨_, rfl, Grow.of_below hb27, ?_⟩
        (refine ord_norm (fun K hK => ?_); go_simp; refine hK _ ?_; clear hK K)
        have c1 := ((((((((((((((Cel.box (i := 0) (v := .bool false) (t := 40) (b := w.heap.size) w #[.bool false, .slice none 0 0] rfl (by simp)).below hb7).below hb8).below hb9).below hby).below ((Below.refl _ _).alloc (Nat.le_refl _) (.cells #[.bool s_y, .slice A_y n_y c_y] 40))).below hb10).below (below_drewN _ 1)).below HZ.out.1).below (Below.refl _ _).drew).below hb24).below hb25).below hb26).below hb27)
        have c2 := ((((((((((((((Cel.box (i := 1) (v := .slice none 0 0) (t := 40) (b := w.heap.size) w #[.bool false, .slice none 0 0] rfl (by simp)).below hb7).below hb8).below hb9).below hby).below ((Below.refl _ _).alloc (Nat.le_refl _) (.cells #[.bool s_y, .slice A_y n_y c_y] 40))).below hb10).below (below_drewN _ 1)).below HZ.out.1).below (Below.refl _ _).drew).below hb24).below hb25).below hb26).below hb27)
        obtain ⟨c1a, c1b, c1c⟩ := c1
        obtain ⟨c2a, c2b, c2c⟩ := c2
        (refine ord_act (by rfl) (fun K hK => ?_); go_simp)
        refine hK _ _ ⟨Grow.trans _ _ _ _ (Grow.set rfl _) (Grow.set rfl _), ?_⟩
        clear hK K
        refine ord_nil ?_
        have HO := Lib.hid o_r
        have HB := Lib.hid (bt (bt (bt (bt (bt (bt (bt (bt (bt (bt (bt (bt (bt ((Below.refl _ _).alloc (Nat.le_refl _) (.cells #[.bool false, .slice none 0 0] 40)) hb7) hb8) hb9) hby) ((Below.refl _ _).alloc (Nat.le_refl _) (.cells #[.bool s_y, .slice A_y n_y c_y] 40))) hb10) (below_drewN _ 1)) HZ.out.1) (Below.refl _ _).drew) hb24) hb25) hb26) hb27)
        go_wp2
        refine bodyPost_ret (v := .agg #[.bool s_r, .slice A_r n_r c_r]) (by simp [results, Tryz.results58, go_sem, c1a, c2a]) rfl ?_
        refine ⟨_, HSO.out, ?_⟩
        exact gi_fin hs_r HO.out HB.out ⟨Nat.le_refl _, HWB.out⟩ (by rw [← HO.out.len]; exact dgl (some_lt HSO.out HLT.out hK1))

theorem extok_of {a b x : Nat} {k : Int} (hb : 0 < b) (h : (Nat.gcd a b : Int) - (x : Int) * (a : Int) = k * (b : Int)) (hx : x < b / Nat.gcd a b) : ExtOk a b x k.natAbs (decide (k < 0)) := by
  have e : (x : Int) * (a : Int) = ((x * a : Nat) : Int) := (Int.natCast_mul x a).symm
  rw [e] at h
  refine ⟨?_, fun h0 => by omega, fun _ => hx⟩
  by_cases hk : k < 0
  · left
    obtain ⟨j, rfl⟩ : ∃ j : Nat, k = -(j : Int) := ⟨k.natAbs, by omega⟩
    rw [Int.neg_mul, ← Int.natCast_mul] at h
    rw [Int.natAbs_neg, Int.natAbs_natCast]
    refine ⟨decide_eq_true hk, by omega, by omega⟩
  · right
    obtain ⟨j, rfl⟩ : ∃ j : Nat, k = (j : Int) := ⟨k.natAbs, by omega⟩
    rw [← Int.natCast_mul] at h
    rw [Int.natAbs_natCast]
    refine ⟨decide_eq_false hk, by omega⟩
theorem ext_part {a b : Nat} (hb : 0 < b) : 0 < b / Nat.gcd a b := Nat.div_pos (Nat.le_of_dvd hb (Nat.gcd_dvd_right a b)) (Nat.gcd_pos_of_pos_right a hb)
theorem ext_law {a b : Nat} {z : Int} (hb : 0 < b) (hz : SomeOk a b z) :
    ∃ k : Int, (Nat.gcd a b : Int) - (((z % ((b / Nat.gcd a b : Nat) : Int)).toNat : Nat) : Int) * (a : Int) = k * (b : Int) ∧ (z % ((b / Nat.gcd a b : Nat) : Int)).toNat < b / Nat.gcd a b := by
  have hp := ext_part (a := a) hb
  obtain ⟨⟨j, hj⟩, _⟩ := hz
  obtain ⟨d, hd⟩ := Nat.gcd_dvd_left a b
  obtain ⟨p, hp2⟩ := Nat.gcd_dvd_right a b
  have hg : 0 < Nat.gcd a b := Nat.gcd_pos_of_pos_right a hb
  have hbp : b / Nat.gcd a b = p := by conv => lhs; arg 1; rw [hp2]
                                       exact Nat.mul_div_cancel_left p hg
  rw [hbp] at hp ⊢
  generalize Nat.gcd a b = g at *
  have h0 : 0 ≤ z % (p : Int) := Int.emod_nonneg _ (by omega)
  have h1 : z % (p : Int) < (p : Int) := Int.emod_lt_of_pos _ (by omega)
  have h2 := Int.mul_ediv_add_emod z (p : Int)
  refine ⟨(z / (p : Int)) * (d : Int) - j, ?_, by omega⟩
  rw [Int.toNat_of_nonneg h0]
  have ea : (a : Int) = (g : Int) * (d : Int) := by rw [← Int.natCast_mul, ← hd]
  have eb : (b : Int) = (g : Int) * (p : Int) := by rw [← Int.natCast_mul, ← hp2]
  have e3 : z % (p : Int) = z - (p : Int) * (z / (p : Int)) := by omega
  have e4 : (z - (p : Int) * (z / (p : Int))) * (a : Int) = z * (a : Int) - (z / (p : Int)) * (d : Int) * (b : Int) := by
    rw [Int.sub_mul, ea, eb]
    congr 1
    rw [Int.mul_comm (p : Int), Int.mul_assoc, Int.mul_assoc, Int.mul_left_comm (p : Int), Int.mul_left_comm (d : Int), Int.mul_comm (p : Int)]
  rw [e3, e4, hj, Int.sub_mul, Int.mul_comm j]
  omega
end Go.Proofs.YtbamhgpadfojfaaGreat
namespace Go.Proofs.YtbamhgpadfojfaaGreat
open Go.RowKit
set_option linter.unusedVariables false

theorem At.growN {w : World} {p : Addr} {v : Value} (h : At w p v) : ∀ w', Grow none w.drew w' → w'.cell? p = some v := At.grow h
set_option maxHeartbeats 2000000 in
theorem extended5_00 {v u : Value} {a b K : Nat} {w : World} (h : Num w v a K) (h' : Num w u b K) (ha : a = 0) (hb : b = 0) (hK1 : 1 ≤ K) (hK : K ≤ 1000000) :
    Calls Tryz.prog 16 #[v, u] w (GExt w a b (2 * K + 1)) := by
  have q0 : decide (a = 0) = true := by simpa using ha
  have q1 : decide (b = 0) = true := by simpa using hb
  have HZ := Lib.hid (And.intro ha hb)
  clear ha hb
  have H := Lib.hid h
  have H' := Lib.hid h'
  obtain ⟨_, _, _, _, rfl, _⟩ := id h
  obtain ⟨_, _, _, _, rfl, _⟩ := id h'
  clear h h'
  go_enter Tryz.func16, Tryz.ntmps16
  have HG0 : Hid (w.heap.size + 1 < Array.size (World.heap ((World.alloc (World.alloc w (.cells #[.bool false, .slice none 0 0] 40)) (.cells #[.bool false, .slice none 0 0] 40))))) := (Cel.box (i := 1) (v := .slice none 0 0) (t := 40) (b := w.heap.size + 1) (World.alloc w (.cells #[.bool false, .slice none 0 0] 40)) #[.bool false, .slice none 0 0] rfl (by simp)).2.2
  go_wp2_with fail
  refine (gcd5_any (K := K) ((H.out.below ((Below.refl _ _).alloc (Nat.le_refl _) (.cells #[.bool false, .slice none 0 0] 40))).below ((Below.refl _ _).alloc (Nat.le_refl _) (.cells #[.bool false, .slice none 0 0] 40))) ((H'.out.below ((Below.refl _ _).alloc (Nat.le_refl _) (.cells #[.bool false, .slice none 0 0] 40))).below ((Below.refl _ _).alloc (Nat.le_refl _) (.cells #[.bool false, .slice none 0 0] 40))) (by omega) (by omega) (by omega) (by omega)).mono ?_
  rintro e w1 ⟨A_g, n_g, c_g, rfl, o_g, hb1, l_g⟩
  go_wp2_with fail
  refine (zero5_any (((H'.out.below ((Below.refl _ _).alloc (Nat.le_refl _) (.cells #[.bool false, .slice none 0 0] 40))).below ((Below.refl _ _).alloc (Nat.le_refl _) (.cells #[.bool false, .slice none 0 0] 40))).below hb1) (by omega)).mono ?_
  rintro e w2 ⟨rfl, hb2⟩
  go_wp2_with fail
  refine (zero5_any ((((H.out.below ((Below.refl _ _).alloc (Nat.le_refl _) (.cells #[.bool false, .slice none 0 0] 40))).below ((Below.refl _ _).alloc (Nat.le_refl _) (.cells #[.bool false, .slice none 0 0] 40))).below hb1).below hb2) (by omega)).mono ?_
  rintro e w3 ⟨rfl, hb3⟩
  have HX0 : Hid (w.heap.size + 1 < Array.size (World.heap (w3))) := ((((Cel.box (i := 1) (v := .slice none 0 0) (t := 40) (b := w.heap.size + 1) (World.alloc w (.cells #[.bool false, .slice none 0 0] 40)) #[.bool false, .slice none 0 0] rfl (by simp)).below hb1).below hb2).below hb3).2.2
  go_wp2_with fail
  refine (Z5_nat (x := 0) rfl (by omega)).mono ?_
  rintro e w4 ⟨A_x, n_x, c_x, s_x, rfl, hs_x, o_x, hb4, l_x⟩
  obtain rfl : s_x = false := hs_x.out.trans (by simp)
  have HY0 : Hid (w.heap.size + 1 < Array.size (World.heap (w4))) := (((((Cel.box (i := 1) (v := .slice none 0 0) (t := 40) (b := w.heap.size + 1) (World.alloc w (.cells #[.bool false, .slice none 0 0] 40)) #[.bool false, .slice none 0 0] rfl (by simp)).below hb1).below hb2).below hb3).below hb4).2.2
  go_wp2_with fail
  refine (Z5_nat (x := 0) rfl (by omega)).mono ?_
  rintro e w5 ⟨A_y, n_y, c_y, s_y, rfl, hs_y, o_y, hb5, l_y⟩
  obtain rfl : s_y = false := hs_y.out.trans (by simp)
  have HOS := Lib.hid (And.intro ((((o_g.below hb2).below hb3).below hb4).below hb5) (And.intro (o_x.below hb5) o_y))
  have HBB := Lib.hid (bt (bt (bt (bt (bt (bt ((Below.refl _ _).alloc (Nat.le_refl _) (.cells #[.bool false, .slice none 0 0] 40)) ((Below.refl _ _).alloc (Nat.le_refl _) (.cells #[.bool false, .slice none 0 0] 40))) hb1) hb2) hb3) hb4) hb5)
  have c1 := (((((((Cel.box (i := 0) (v := .bool false) (t := 40) (b := w.heap.size) w #[.bool false, .slice none 0 0] rfl (by simp)).below ((Below.refl _ _).alloc (Nat.le_refl _) (.cells #[.bool false, .slice none 0 0] 40))).below hb1).below hb2).below hb3).below hb4).below hb5)
  have c2 := (((((((Cel.box (i := 1) (v := .slice none 0 0) (t := 40) (b := w.heap.size) w #[.bool false, .slice none 0 0] rfl (by simp)).below ((Below.refl _ _).alloc (Nat.le_refl _) (.cells #[.bool false, .slice none 0 0] 40))).below hb1).below hb2).below hb3).below hb4).below hb5)
  have c3 := ((((((Cel.box (i := 0) (v := .bool false) (t := 40) (b := w.heap.size + 1) (World.alloc w (.cells #[.bool false, .slice none 0 0] 40)) #[.bool false, .slice none 0 0] rfl (by simp)).below hb1).below hb2).below hb3).below hb4).below hb5)
  have c4 := ((((((Cel.box (i := 1) (v := .slice none 0 0) (t := 40) (b := w.heap.size + 1) (World.alloc w (.cells #[.bool false, .slice none 0 0] 40)) #[.bool false, .slice none 0 0] rfl (by simp)).below hb1).below hb2).below hb3).below hb4).below hb5)
  obtain ⟨c1a, c1b, c1c⟩ := c1
  obtain ⟨c2a, c2b, c2c⟩ := c2
  obtain ⟨c3a, c3b, c3c⟩ := c3
  obtain ⟨c4a, c4b, c4c⟩ := c4
  clear o_g o_x o_y
  go_wp2
  refine bodyPost_ret (v := .tuple #[.slice A_g n_g c_g, .agg #[.bool false, .slice A_x n_x c_x], .agg #[.bool false, .slice A_y n_y c_y]]) (by simp [results, Tryz.results16, go_sem, c1a, c2a, c3a, c4a]) rfl ?_
  exact ⟨0, 0, false, _, _, _, _, _, _, _, _, _, ⟨.inr ⟨rfl, by rw [HZ.out.1, HZ.out.2]; rfl⟩, fun _ => ⟨rfl, by rw [if_pos HZ.out.1]⟩, fun h => by have := HZ.out.2; omega⟩, rfl, ⟨(HOS.out.1.set4 HG0.out).mono (by have := HG0.out; omega), (HOS.out.2.1.set4 HX0.out).mono (by have := HX0.out; omega), (HOS.out.2.2.set4 HY0.out).mono (by have := HY0.out; omega)⟩, (((HBB.out.setCell (p := ⟨w.heap.size, 0, none⟩) (Nat.le_refl _) _).setCell (p := ⟨w.heap.size, 1, none⟩) (Nat.le_refl _) _).setCell (p := ⟨w.heap.size + 1, 0, none⟩) (by simp) _).setCell (p := ⟨w.heap.size + 1, 1, none⟩) (by simp) _, by omega, by omega, by omega⟩
set_option maxHeartbeats 2000000 in
theorem extended5_a0 {v u : Value} {a b K : Nat} {w : World} (h : Num w v a K) (h' : Num w u b K) (ha : 0 < a) (hb : b = 0) (hK1 : 1 ≤ K) (hK : K ≤ 1000000) :
    Calls Tryz.prog 16 #[v, u] w (GExt w a b (2 * K + 1)) := by
  have q0 : decide (a = 0) = false := by simp; omega
  have q1 : decide (b = 0) = true := by simpa using hb
  have HZ := Lib.hid (And.intro ha hb)
  clear ha hb
  have H := Lib.hid h
  have H' := Lib.hid h'
  obtain ⟨_, _, _, _, rfl, _⟩ := id h
  obtain ⟨_, _, _, _, rfl, _⟩ := id h'
  clear h h'
  go_enter Tryz.func16, Tryz.ntmps16
  have HG0 : Hid (w.heap.size + 1 < Array.size (World.heap ((World.alloc (World.alloc w (.cells #[.bool false, .slice none 0 0] 40)) (.cells #[.bool false, .slice none 0 0] 40))))) := (Cel.box (i := 1) (v := .slice none 0 0) (t := 40) (b := w.heap.size + 1) (World.alloc w (.cells #[.bool false, .slice none 0 0] 40)) #[.bool false, .slice none 0 0] rfl (by simp)).2.2
  go_wp2_with fail
  refine (gcd5_any (K := K) ((H.out.below ((Below.refl _ _).alloc (Nat.le_refl _) (.cells #[.bool false, .slice none 0 0] 40))).below ((Below.refl _ _).alloc (Nat.le_refl _) (.cells #[.bool false, .slice none 0 0] 40))) ((H'.out.below ((Below.refl _ _).alloc (Nat.le_refl _) (.cells #[.bool false, .slice none 0 0] 40))).below ((Below.refl _ _).alloc (Nat.le_refl _) (.cells #[.bool false, .slice none 0 0] 40))) (by omega) (by omega) (by omega) (by omega)).mono ?_
  rintro e w1 ⟨A_g, n_g, c_g, rfl, o_g, hb1, l_g⟩
  go_wp2_with fail
  refine (zero5_any (((H'.out.below ((Below.refl _ _).alloc (Nat.le_refl _) (.cells #[.bool false, .slice none 0 0] 40))).below ((Below.refl _ _).alloc (Nat.le_refl _) (.cells #[.bool false, .slice none 0 0] 40))).below hb1) (by omega)).mono ?_
  rintro e w2 ⟨rfl, hb2⟩
  go_wp2_with fail
  refine (zero5_any ((((H.out.below ((Below.refl _ _).alloc (Nat.le_refl _) (.cells #[.bool false, .slice none 0 0] 40))).below ((Below.refl _ _).alloc (Nat.le_refl _) (.cells #[.bool false, .slice none 0 0] 40))).below hb1).below hb2) (by omega)).mono ?_
  rintro e w3 ⟨rfl, hb3⟩
  have HX0 : Hid (w.heap.size + 1 < Array.size (World.heap (w3))) := ((((Cel.box (i := 1) (v := .slice none 0 0) (t := 40) (b := w.heap.size + 1) (World.alloc w (.cells #[.bool false, .slice none 0 0] 40)) #[.bool false, .slice none 0 0] rfl (by simp)).below hb1).below hb2).below hb3).2.2
  go_wp2_with fail
  refine (Z5_nat (x := 1) rfl (by omega)).mono ?_
  rintro e w4 ⟨A_x, n_x, c_x, s_x, rfl, hs_x, o_x, hb4, l_x⟩
  obtain rfl : s_x = false := hs_x.out.trans (by simp)
  have HY0 : Hid (w.heap.size + 1 < Array.size (World.heap (w4))) := (((((Cel.box (i := 1) (v := .slice none 0 0) (t := 40) (b := w.heap.size + 1) (World.alloc w (.cells #[.bool false, .slice none 0 0] 40)) #[.bool false, .slice none 0 0] rfl (by simp)).below hb1).below hb2).below hb3).below hb4).2.2
  go_wp2_with fail
  refine (Z5_nat (x := 0) rfl (by omega)).mono ?_
  rintro e w5 ⟨A_y, n_y, c_y, s_y, rfl, hs_y, o_y, hb5, l_y⟩
  obtain rfl : s_y = false := hs_y.out.trans (by simp)
  have HOS := Lib.hid (And.intro ((((o_g.below hb2).below hb3).below hb4).below hb5) (And.intro (o_x.below hb5) o_y))
  have HBB := Lib.hid (bt (bt (bt (bt (bt (bt ((Below.refl _ _).alloc (Nat.le_refl _) (.cells #[.bool false, .slice none 0 0] 40)) ((Below.refl _ _).alloc (Nat.le_refl _) (.cells #[.bool false, .slice none 0 0] 40))) hb1) hb2) hb3) hb4) hb5)
  have c1 := (((((((Cel.box (i := 0) (v := .bool false) (t := 40) (b := w.heap.size) w #[.bool false, .slice none 0 0] rfl (by simp)).below ((Below.refl _ _).alloc (Nat.le_refl _) (.cells #[.bool false, .slice none 0 0] 40))).below hb1).below hb2).below hb3).below hb4).below hb5)
  have c2 := (((((((Cel.box (i := 1) (v := .slice none 0 0) (t := 40) (b := w.heap.size) w #[.bool false, .slice none 0 0] rfl (by simp)).below ((Below.refl _ _).alloc (Nat.le_refl _) (.cells #[.bool false, .slice none 0 0] 40))).below hb1).below hb2).below hb3).below hb4).below hb5)
  have c3 := ((((((Cel.box (i := 0) (v := .bool false) (t := 40) (b := w.heap.size + 1) (World.alloc w (.cells #[.bool false, .slice none 0 0] 40)) #[.bool false, .slice none 0 0] rfl (by simp)).below hb1).below hb2).below hb3).below hb4).below hb5)
  have c4 := ((((((Cel.box (i := 1) (v := .slice none 0 0) (t := 40) (b := w.heap.size + 1) (World.alloc w (.cells #[.bool false, .slice none 0 0] 40)) #[.bool false, .slice none 0 0] rfl (by simp)).below hb1).below hb2).below hb3).below hb4).below hb5)
  obtain ⟨c1a, c1b, c1c⟩ := c1
  obtain ⟨c2a, c2b, c2c⟩ := c2
  obtain ⟨c3a, c3b, c3c⟩ := c3
  obtain ⟨c4a, c4b, c4c⟩ := c4
  clear o_g o_x o_y
  go_wp2
  refine bodyPost_ret (v := .tuple #[.slice A_g n_g c_g, .agg #[.bool false, .slice A_x n_x c_x], .agg #[.bool false, .slice A_y n_y c_y]]) (by simp [results, Tryz.results16, go_sem, c1a, c2a, c3a, c4a]) rfl ?_
  exact ⟨1, 0, false, _, _, _, _, _, _, _, _, _, ⟨.inr ⟨rfl, by rw [HZ.out.2, Nat.gcd_zero_right]; simp⟩, fun _ => ⟨rfl, by rw [if_neg (by have := HZ.out.1; omega)]⟩, fun h => by have := HZ.out.2; omega⟩, rfl, ⟨(HOS.out.1.set4 HG0.out).mono (by have := HG0.out; omega), (HOS.out.2.1.set4 HX0.out).mono (by have := HX0.out; omega), (HOS.out.2.2.set4 HY0.out).mono (by have := HY0.out; omega)⟩, (((HBB.out.setCell (p := ⟨w.heap.size, 0, none⟩) (Nat.le_refl _) _).setCell (p := ⟨w.heap.size, 1, none⟩) (Nat.le_refl _) _).setCell (p := ⟨w.heap.size + 1, 0, none⟩) (by simp) _).setCell (p := ⟨w.heap.size + 1, 1, none⟩) (by simp) _, by omega, by omega, by omega⟩
set_option maxHeartbeats 8000000 in
set_option maxRecDepth 100000 in
theorem extended5_0b {v u : Value} {a b K : Nat} {w : World} (h : Num w v a K) (h' : Num w u b K) (ha : a = 0) (hb : 0 < b) (hK1 : 1 ≤ K) (hK : K ≤ 1000000) :
    Calls Tryz.prog 16 #[v, u] w (GExt w a b (2 * K + 1)) := by
  have q0 : decide (a = 0) = true := by simpa using ha
  have q1 : decide (b = 0) = false := by simp; omega
  have HA := Lib.hid ha
  have HB0 := Lib.hid hb
  have HG1 : Hid (0 < Nat.gcd a b) := Nat.gcd_pos_of_pos_right a hb
  obtain ⟨k, hk⟩ : ∃ k : Int, k = 1 := ⟨_, rfl⟩
  have HK : Hid (sg false (Nat.gcd a b) - ((0 : Nat) : Int) * sg false a = k * sg false b) := by
    show _ = _
    rw [hk, ha, Nat.gcd_zero_left]
    simp [sg_false]
  have HOK : Hid (ExtOk a b 0 k.natAbs (decide (k < 0))) := extok_of hb (by
    rw [hk, ha, Nat.gcd_zero_left]; simp) (ext_part hb)
  clear ha hb hk
  have H := Lib.hid h
  have H' := Lib.hid h'
  obtain ⟨_, _, _, _, rfl, _⟩ := id h
  obtain ⟨_, _, _, _, rfl, _⟩ := id h'
  clear h h'
  go_enter Tryz.func16, Tryz.ntmps16
  have HG0 : Hid (w.heap.size + 1 < Array.size (World.heap ((World.alloc (World.alloc w (.cells #[.bool false, .slice none 0 0] 40)) (.cells #[.bool false, .slice none 0 0] 40))))) := (Cel.box (i := 1) (v := .slice none 0 0) (t := 40) (b := w.heap.size + 1) (World.alloc w (.cells #[.bool false, .slice none 0 0] 40)) #[.bool false, .slice none 0 0] rfl (by simp)).2.2
  go_wp2_with fail
  refine (gcd5_any (K := K) ((H.out.below ((Below.refl _ _).alloc (Nat.le_refl _) (.cells #[.bool false, .slice none 0 0] 40))).below ((Below.refl _ _).alloc (Nat.le_refl _) (.cells #[.bool false, .slice none 0 0] 40))) ((H'.out.below ((Below.refl _ _).alloc (Nat.le_refl _) (.cells #[.bool false, .slice none 0 0] 40))).below ((Below.refl _ _).alloc (Nat.le_refl _) (.cells #[.bool false, .slice none 0 0] 40))) (by omega) (by omega) (by omega) (by omega)).mono ?_
  rintro e w1 ⟨A_g, n_g, c_g, rfl, o_g, hb1, l_g⟩
  go_wp2_with fail
  refine (zero5_any (((H'.out.below ((Below.refl _ _).alloc (Nat.le_refl _) (.cells #[.bool false, .slice none 0 0] 40))).below ((Below.refl _ _).alloc (Nat.le_refl _) (.cells #[.bool false, .slice none 0 0] 40))).below hb1) (by omega)).mono ?_
  rintro e w2 ⟨rfl, hb2⟩
  go_wp2_with fail
  refine (quo5_any ((((H'.out.below ((Below.refl _ _).alloc (Nat.le_refl _) (.cells #[.bool false, .slice none 0 0] 40))).below ((Below.refl _ _).alloc (Nat.le_refl _) (.cells #[.bool false, .slice none 0 0] 40))).below hb1).below hb2) ((o_g.num l_g).below hb2) HG1.out (by omega) (by omega) (by omega) (by omega)).mono ?_
  rintro e w3 ⟨A_part, n_part, c_part, A_rr, n_rr, c_rr, rfl, o_part, o_rr, hb3, l_part, l_rr⟩
  have HX0 : Hid (w.heap.size + 1 < Array.size (World.heap (w3))) := ((((Cel.box (i := 1) (v := .slice none 0 0) (t := 40) (b := w.heap.size + 1) (World.alloc w (.cells #[.bool false, .slice none 0 0] 40)) #[.bool false, .slice none 0 0] rfl (by simp)).below hb1).below hb2).below hb3).2.2
  go_wp2_with fail
  refine (Z5_nat (x := 0) rfl (by omega)).mono ?_
  rintro e w4 ⟨A_x, n_x, c_x, s_x, rfl, hs_x, o_x, hb4, l_x⟩
  obtain rfl : s_x = false := hs_x.out.trans (by simp)
  have HSX := Lib.hid (sg_of hs_x.out)
  have hxb : w.heap.size + 1 < Array.size (World.heap (w4)) := (((((Cel.box (i := 1) (v := .slice none 0 0) (t := 40) (b := w.heap.size + 1) (World.alloc w (.cells #[.bool false, .slice none 0 0] 40)) #[.bool false, .slice none 0 0] rfl (by simp)).below hb1).below hb2).below hb3).below hb4).2.2
  go_wp2_with fail
  refine (zero5_any (((((((H.out.below ((Below.refl _ _).alloc (Nat.le_refl _) (.cells #[.bool false, .slice none 0 0] 40))).below ((Below.refl _ _).alloc (Nat.le_refl _) (.cells #[.bool false, .slice none 0 0] 40))).below hb1).below hb2).below hb3).below hb4).below ((Below.refl _ _).alloc (Nat.le_refl _) (.cells #[.bool false, .slice A_x n_x c_x] 40))) (by omega)).mono ?_
  rintro e w5 ⟨rfl, hb5⟩
  have HWT : Hid (w.heap.size + 1 < Array.size (World.heap (w5))) := (((((((Cel.box (i := 1) (v := .slice none 0 0) (t := 40) (b := w.heap.size + 1) (World.alloc w (.cells #[.bool false, .slice none 0 0] 40)) #[.bool false, .slice none 0 0] rfl (by simp)).below hb1).below hb2).below hb3).below hb4).below ((Below.refl _ _).alloc (Nat.le_refl _) (.cells #[.bool false, .slice A_x n_x c_x] 40))).below hb5).2.2
  go_wp2_with fail
  have e_x0 := ((At.boxc (i := 0) (v := .bool false) (t := 40) (b := w4.heap.size) w4 #[.bool false, .slice A_x n_x c_x] rfl (by simp)).below hb5).1
  have g_x0 := At.growB ((At.boxc (i := 0) (v := .bool false) (t := 40) (b := w4.heap.size) w4 #[.bool false, .slice A_x n_x c_x] rfl (by simp)).below hb5)
  have e_x1 := ((At.boxc (i := 1) (v := .slice A_x n_x c_x) (t := 40) (b := w4.heap.size) w4 #[.bool false, .slice A_x n_x c_x] rfl (by simp)).below hb5).1
  have g_x1 := At.growB ((At.boxc (i := 1) (v := .slice A_x n_x c_x) (t := 40) (b := w4.heap.size) w4 #[.bool false, .slice A_x n_x c_x] rfl (by simp)).below hb5)
  refine wp_region_fltR (KB (w5).heap.size) (KB.refl _) (KB.trans _) (KB.of_grow _) [(0, 0), (0, 2), (0, 3), (0, 7), (2, 10), (1, 1), (1, 4), (1, 5), (1, 6), (1, 8), (1, 9), (4, 10), (3, 11)] (by kernel_rfl) (by kernel_rfl) ?_
  repeat (refine flt_pas (by rfl) (fun K hK => ?_); go_simp; refine hK _ _ (fun w' hw' => (by first | (go_simp; done) | (go_simp; intro hh; cases hh))) ?_; clear hK K)
  refine flt_alloc ((World.drew w5).heap.size) 40 #[.bool false, .slice none 0 0] (by rfl) rfl (fun w1 => (by go_simp)) (Nat.le_refl _) ?_
  refine flt_call (by rfl) (fun w6 hw6 K hK => ?_); go_simp; refine hK _ _ ?_; clear hK K
  refine (I5_any (s := false) ((((((((o_g.num l_g).below hb2).below hb3).below hb4).below ((Below.refl _ _).alloc (Nat.le_refl _) (.cells #[.bool false, .slice A_x n_x c_x] 40))).below hb5).below (below_drewN _ 1)).below hw6.below) (by omega)).mono ?_
  rintro e w7 ⟨A_i1, n_i1, c_i1, s_i1, rfl, hs_i1, o_i1, hb7, l_i1⟩
  refine ⟨_, rfl, Grow.of_below hb7, ?_⟩
  (refine flt_norm (fun K hK => ?_); go_simp; refine hK _ ?_; clear hK K)
  refine flt_call (by rfl) (fun w8 hw8 K hK => ?_); go_simp; refine hK _ _ ?_; clear hK K
  refine (I5_any (s := false) ((((((((((((H.out.below ((Below.refl _ _).alloc (Nat.le_refl _) (.cells #[.bool false, .slice none 0 0] 40))).below ((Below.refl _ _).alloc (Nat.le_refl _) (.cells #[.bool false, .slice none 0 0] 40))).below hb1).below hb2).below hb3).below hb4).below ((Below.refl _ _).alloc (Nat.le_refl _) (.cells #[.bool false, .slice A_x n_x c_x] 40))).below hb5).below (below_drewN _ 1)).below hw6.below).below hb7).below hw8.below) (by omega)).mono ?_
  rintro e w9 ⟨A_i2, n_i2, c_i2, s_i2, rfl, hs_i2, o_i2, hb9, l_i2⟩
  refine ⟨_, rfl, Grow.of_below hb9, ?_⟩
  (refine flt_norm (fun K hK => ?_); go_simp; refine hK _ ?_; clear hK K)
  refine flt_call (by rfl) (fun w10 hw10 K hK => ?_); go_simp; refine hK _ _ ?_; clear hK K
  refine (mul5_any (((((((((o_x.num l_x).below ((Below.refl _ _).alloc (Nat.le_refl _) (.cells #[.bool false, .slice A_x n_x c_x] 40))).below hb5).below (below_drewN _ 1)).below hw6.below).below hb7).below hw8.below).below hb9).below hw10.below) ((o_i2.num l_i2).below hw10.below) HSX.out (sg_of hs_i2.out) (by omega) (by omega)).mono ?_
  rintro e w11 ⟨A_m1, n_m1, c_m1, s_m1, rfl, hs_m1, o_m1, hb11, l_m1⟩
  refine ⟨_, rfl, Grow.of_below hb11, ?_⟩
  (refine flt_norm (fun K hK => ?_); go_simp; refine hK _ ?_; clear hK K)
  refine flt_call (by rfl) (fun w12 hw12 K hK => ?_); go_simp; refine hK _ _ ?_; clear hK K
  refine (sub5_any ((((((o_i1.num l_i1).below hw8.below).below hb9).below hw10.below).below hb11).below hw12.below) ((o_m1.num l_m1).below hw12.below) (sg_of hs_i1.out) (sg_of hs_m1.out) (by omega) (by omega) (by omega) (by omega)).mono ?_
  rintro e w13 ⟨A_d1, n_d1, c_d1, s_d1, rfl, hs_d1, o_d1, hb13, l_d1⟩
  refine ⟨_, rfl, Grow.of_below hb13, ?_⟩
  (refine flt_norm (fun K hK => ?_); go_simp; refine hK _ ?_; clear hK K)
  refine flt_call (by rfl) (fun w14 hw14 K hK => ?_); go_simp; refine hK _ _ ?_; clear hK K
  refine (I5_any (s := false) ((((((((((((((((((H'.out.below ((Below.refl _ _).alloc (Nat.le_refl _) (.cells #[.bool false, .slice none 0 0] 40))).below ((Below.refl _ _).alloc (Nat.le_refl _) (.cells #[.bool false, .slice none 0 0] 40))).below hb1).below hb2).below hb3).below hb4).below ((Below.refl _ _).alloc (Nat.le_refl _) (.cells #[.bool false, .slice A_x n_x c_x] 40))).below hb5).below (below_drewN _ 1)).below hw6.below).below hb7).below hw8.below).below hb9).below hw10.below).below hb11).below hw12.below).below hb13).below hw14.below) (by omega)).mono ?_
  rintro e w15 ⟨A_i3, n_i3, c_i3, s_i3, rfl, hs_i3, o_i3, hb15, l_i3⟩
  refine ⟨_, rfl, Grow.of_below hb15, ?_⟩
  (refine flt_norm (fun K hK => ?_); go_simp; refine hK _ ?_; clear hK K)
  refine flt_call (by rfl) (fun w16 hw16 K hK => ?_); go_simp; refine hK _ _ ?_; clear hK K
  refine (exact5_any ((((o_d1.num l_d1).below hw14.below).below hb15).below hw16.below) ((o_i3.num l_i3).below hw16.below) (k := k) (by rw [(sg_of hs_d1.out), (sg_of hs_i3.out)]; exact HK.out) (by rw [sg_false]; exact HB0.out) (by omega) (by omega) (by omega) (by omega)).mono ?_
  rintro e w17 ⟨A_y, n_y, c_y, s_y, rfl, hs_y, o_y, hb17, l_y⟩
  refine ⟨_, rfl, Grow.of_below hb17, ?_⟩
  (refine flt_norm (fun K hK => ?_); go_simp; refine hK _ ?_; clear hK K)
  refine flt_land (by rfl) (fun v_zb w18 hw18 hF => ?_)
  obtain ⟨b_zb, rfl, hB_zb, hc_zb⟩ := hF
  (refine flt_norm (fun K hK => ?_); go_simp; refine hK _ ?_; clear hK K)
  obtain ⟨cz1, cz2, cz3⟩ := cel_of hc_zb (j := 0) rfl
  obtain ⟨cz4, cz5, cz6⟩ := cel_of hc_zb (j := 1) rfl
  (refine flt_actX (by rfl) (fun K hK => ?_); go_simp)
  refine hK _ _ ⟨KB.set2 hB_zb, ?_⟩
  clear hK K
  repeat (refine flt_pas (by rfl) (fun K hK => ?_); go_simp; refine hK _ _ (fun w' hw' => (by first | (go_simp; done) | (go_simp; intro hh; cases hh))) ?_; clear hK K)
  refine flt_nil ?_
  clear g_x0 e_x0 g_x1 e_x1
  have HKX : Hid ((∃ B, w.heap.size + 1 < B ∧ Own .u64 49 B (w18) A_y n_y c_y (dg W k.natAbs)) ∧ Below ((World.drew w5)).heap.size ((World.drew w5)) (w18)) := ⟨⟨_, Nat.lt_of_lt_of_le HWT.out (bt (bt (bt (bt (bt (bt (bt (bt (bt (bt hw6.below hb7) hw8.below) hb9) hw10.below) hb11) hw12.below) hb13) hw14.below) hb15) hw16.below).size, (o_y.below hw18.below)⟩, (bt (bt (bt (bt (bt (bt (bt (bt (bt (bt (bt (bt hw6.below hb7) hw8.below) hb9) hw10.below) hb11) hw12.below) hb13) hw14.below) hb15) hw16.below) hb17) hw18.below)⟩
  obtain ⟨wz, hwz⟩ : ∃ wz : World, wz = ((w18).setCell ⟨b_zb, 0, none⟩ (.bool s_y)).setCell ⟨b_zb, 1, none⟩ (.slice A_y n_y c_y) := ⟨_, rfl⟩
  rw [← hwz]
  have HZ : Hid (Below ((World.drew w5)).heap.size ((World.drew w5)) wz ∧ At wz ⟨b_zb, 0, none⟩ (.bool s_y) ∧ At wz ⟨b_zb, 1, none⟩ (.slice A_y n_y c_y) ∧ ∃ B, w.heap.size + 1 < B ∧ Own .u64 49 B wz A_y n_y c_y (dg W k.natAbs)) := by
    rw [hwz]
    refine ⟨((HKX.out.2).setCell (p := ⟨b_zb, 0, none⟩) hB_zb _).setCell (p := ⟨b_zb, 1, none⟩) hB_zb _, Cel.at ((Cel.put ⟨cz1, cz2, cz3⟩).set (by simp)), Cel.at ((Cel.set ⟨cz4, cz5, cz6⟩ (by simp)).put), ?_⟩
    have hb : BoxT 40 b_zb _ := ⟨_, _, hc_zb⟩
    obtain ⟨B, hB, ho⟩ := HKX.out.1
    exact ⟨B, hB, (ho.set_ty (p := ⟨b_zb, 0, none⟩) hb (by decide)).set_ty (p := ⟨b_zb, 1, none⟩) hb.set (by decide)⟩
  clear HKX
  clear cz1 cz2 cz3 cz4 cz5 cz6 hwz hc_zb o_i1 o_m1 o_i2 o_d1 o_i3 o_y
  have hzb : w.heap.size + 1 < b_zb := Nat.lt_of_lt_of_le HWT.out hB_zb
  have c1 := ((((((((((Cel.box (i := 0) (v := .bool false) (t := 40) (b := w.heap.size) w #[.bool false, .slice none 0 0] rfl (by simp)).below ((Below.refl _ _).alloc (Nat.le_refl _) (.cells #[.bool false, .slice none 0 0] 40))).below hb1).below hb2).below hb3).below hb4).below ((Below.refl _ _).alloc (Nat.le_refl _) (.cells #[.bool false, .slice A_x n_x c_x] 40))).below hb5).below (below_drewN _ 1)).below HZ.out.1)
  have c2 := ((((((((((Cel.box (i := 1) (v := .slice none 0 0) (t := 40) (b := w.heap.size) w #[.bool false, .slice none 0 0] rfl (by simp)).below ((Below.refl _ _).alloc (Nat.le_refl _) (.cells #[.bool false, .slice none 0 0] 40))).below hb1).below hb2).below hb3).below hb4).below ((Below.refl _ _).alloc (Nat.le_refl _) (.cells #[.bool false, .slice A_x n_x c_x] 40))).below hb5).below (below_drewN _ 1)).below HZ.out.1)
  have c3 := (((((((((Cel.box (i := 0) (v := .bool false) (t := 40) (b := w.heap.size + 1) (World.alloc w (.cells #[.bool false, .slice none 0 0] 40)) #[.bool false, .slice none 0 0] rfl (by simp)).below hb1).below hb2).below hb3).below hb4).below ((Below.refl _ _).alloc (Nat.le_refl _) (.cells #[.bool false, .slice A_x n_x c_x] 40))).below hb5).below (below_drewN _ 1)).below HZ.out.1)
  have c4 := (((((((((Cel.box (i := 1) (v := .slice none 0 0) (t := 40) (b := w.heap.size + 1) (World.alloc w (.cells #[.bool false, .slice none 0 0] 40)) #[.bool false, .slice none 0 0] rfl (by simp)).below hb1).below hb2).below hb3).below hb4).below ((Below.refl _ _).alloc (Nat.le_refl _) (.cells #[.bool false, .slice A_x n_x c_x] 40))).below hb5).below (below_drewN _ 1)).below HZ.out.1)
  obtain ⟨c1a, c1b, c1c⟩ := c1
  obtain ⟨c2a, c2b, c2c⟩ := c2
  obtain ⟨c3a, c3b, c3c⟩ := c3
  obtain ⟨c4a, c4b, c4c⟩ := c4
  go_wp2_with fail
  have e_x0 := ((((At.boxc (i := 0) (v := .bool false) (t := 40) (b := w4.heap.size) w4 #[.bool false, .slice A_x n_x c_x] rfl (by simp)).below hb5).below (below_drewN _ 1)).below HZ.out.1).1
  have g_x0 := At.growE (b1 := w.heap.size) (b2 := (w.heap.size + 1)) ((((At.boxc (i := 0) (v := .bool false) (t := 40) (b := w4.heap.size) w4 #[.bool false, .slice A_x n_x c_x] rfl (by simp)).below hb5).below (below_drewN _ 1)).below HZ.out.1) (by simp <;> omega) (by simp <;> omega)
  have e_x1 := ((((At.boxc (i := 1) (v := .slice A_x n_x c_x) (t := 40) (b := w4.heap.size) w4 #[.bool false, .slice A_x n_x c_x] rfl (by simp)).below hb5).below (below_drewN _ 1)).below HZ.out.1).1
  have g_x1 := At.growE (b1 := w.heap.size) (b2 := (w.heap.size + 1)) ((((At.boxc (i := 1) (v := .slice A_x n_x c_x) (t := 40) (b := w4.heap.size) w4 #[.bool false, .slice A_x n_x c_x] rfl (by simp)).below hb5).below (below_drewN _ 1)).below HZ.out.1) (by simp <;> omega) (by simp <;> omega)
  have e_z0 := HZ.out.2.1.1
  have g_z0 := At.growE (b1 := w.heap.size) (b2 := (w.heap.size + 1)) HZ.out.2.1 (by simp <;> omega) (by simp <;> omega)
  have e_z1 := HZ.out.2.2.1.1
  have g_z1 := At.growE (b1 := w.heap.size) (b2 := (w.heap.size + 1)) HZ.out.2.2.1 (by simp <;> omega) (by simp <;> omega)
  refine wp_region_fltR (KE w.heap.size (w.heap.size + 1)) (KE.refl _ _) (KE.trans _ _) (KE.of_grow _ _) [(0, 0), (0, 1), (0, 2), (0, 3), (3, 4), (3, 5)] (by kernel_rfl) (by kernel_rfl) ?_
  repeat (refine flt_pasE (by rfl) (fun K hK => ?_); go_simp; refine hK _ _ (fun w' hw' => (by first | (go_simp; done) | (go_simp; intro hh; cases hh))) ?_; clear hK K)
  (refine flt_actX (by rfl) (fun K hK => ?_); go_simp)
  refine hK _ _ ⟨KE.set2 (.inl rfl), ?_⟩
  clear hK K
  (refine flt_norm (fun K hK => ?_); go_simp; refine hK _ ?_; clear hK K)
  (refine flt_actX (by rfl) (fun K hK => ?_); go_simp)
  refine hK _ _ ⟨KE.set2 (.inr rfl), ?_⟩
  clear hK K
  refine flt_nil ?_
  have HOG := Lib.hid ((((((((o_g.below hb2).below hb3).below hb4).below ((Below.refl _ _).alloc (Nat.le_refl _) (.cells #[.bool false, .slice A_x n_x c_x] 40))).below hb5).below (below_drewN _ 1)).below HZ.out.1).below (below_drewN _ 1))
  have HOX := Lib.hid (((((o_x.below ((Below.refl _ _).alloc (Nat.le_refl _) (.cells #[.bool false, .slice A_x n_x c_x] 40))).below hb5).below (below_drewN _ 1)).below HZ.out.1).below (below_drewN _ 1))
  have HBB := Lib.hid (bt (bt (bt (bt (bt (bt (bt (bt (bt (bt ((Below.refl _ _).alloc (Nat.le_refl _) (.cells #[.bool false, .slice none 0 0] 40)) ((Below.refl _ _).alloc (Nat.le_refl _) (.cells #[.bool false, .slice none 0 0] 40))) hb1) hb2) hb3) hb4) ((Below.refl _ _).alloc (Nat.le_refl _) (.cells #[.bool false, .slice A_x n_x c_x] 40))) hb5) (below_drewN _ 1)) HZ.out.1) (below_drewN _ 1))
  go_wp2
  refine bodyPost_ret (v := .tuple #[.slice A_g n_g c_g, .agg #[.bool false, .slice A_x n_x c_x], .agg #[.bool s_y, .slice A_y n_y c_y]]) (by simp [results, Tryz.results16, go_sem, c1a, c2a, c3a, c4a]) rfl ?_
  obtain ⟨B, hB, hoy⟩ := HZ.out.2.2.2
  refine ⟨0, k.natAbs, s_y, _, _, _, _, _, _, _, _, _, by rw [hs_y.out]; exact HOK.out, rfl, ⟨(HOG.out.set4 HG0.out).mono (by have := HG0.out; omega), (HOX.out.set4 HX0.out).mono (by have := HX0.out; omega), ((show Own _ _ _ (World.drew wz) _ _ _ _ from hoy).set4 hB).mono (by omega)⟩, (((HBB.out.setCell (p := ⟨w.heap.size, 0, none⟩) (Nat.le_refl _) _).setCell (p := ⟨w.heap.size, 1, none⟩) (Nat.le_refl _) _).setCell (p := ⟨w.heap.size + 1, 0, none⟩) (by simp) _).setCell (p := ⟨w.heap.size + 1, 1, none⟩) (by simp) _, by omega, by omega, by omega⟩
set_option maxHeartbeats 8000000 in
set_option maxRecDepth 100000 in
theorem extended5_ab {v u : Value} {a b K : Nat} {w : World} (h : Num w v a K) (h' : Num w u b K) (ha : 0 < a) (hb : 0 < b) (hK1 : 1 ≤ K) (hK : K ≤ 1000000) :
    Calls Tryz.prog 16 #[v, u] w (GExt w a b (2 * K + 1)) := by
  have q0 : decide (a = 0) = false := by simp; omega
  have q1 : decide (b = 0) = false := by simp; omega
  have HA := Lib.hid ha
  have HB0 := Lib.hid hb
  have HG1 : Hid (0 < Nat.gcd a b) := Nat.gcd_pos_of_pos_right a hb
  have HPP : Hid (0 < b / Nat.gcd a b) := ext_part hb
  clear ha hb
  have H := Lib.hid h
  have H' := Lib.hid h'
  obtain ⟨_, _, _, _, rfl, _⟩ := id h
  obtain ⟨_, _, _, _, rfl, _⟩ := id h'
  clear h h'
  go_enter Tryz.func16, Tryz.ntmps16
  have HG0 : Hid (w.heap.size + 1 < Array.size (World.heap ((World.alloc (World.alloc w (.cells #[.bool false, .slice none 0 0] 40)) (.cells #[.bool false, .slice none 0 0] 40))))) := (Cel.box (i := 1) (v := .slice none 0 0) (t := 40) (b := w.heap.size + 1) (World.alloc w (.cells #[.bool false, .slice none 0 0] 40)) #[.bool false, .slice none 0 0] rfl (by simp)).2.2
  go_wp2_with fail
  refine (gcd5_any (K := K) ((H.out.below ((Below.refl _ _).alloc (Nat.le_refl _) (.cells #[.bool false, .slice none 0 0] 40))).below ((Below.refl _ _).alloc (Nat.le_refl _) (.cells #[.bool false, .slice none 0 0] 40))) ((H'.out.below ((Below.refl _ _).alloc (Nat.le_refl _) (.cells #[.bool false, .slice none 0 0] 40))).below ((Below.refl _ _).alloc (Nat.le_refl _) (.cells #[.bool false, .slice none 0 0] 40))) (by omega) (by omega) (by omega) (by omega)).mono ?_
  rintro e w1 ⟨A_g, n_g, c_g, rfl, o_g, hb1, l_g⟩
  go_wp2_with fail
  refine (zero5_any (((H'.out.below ((Below.refl _ _).alloc (Nat.le_refl _) (.cells #[.bool false, .slice none 0 0] 40))).below ((Below.refl _ _).alloc (Nat.le_refl _) (.cells #[.bool false, .slice none 0 0] 40))).below hb1) (by omega)).mono ?_
  rintro e w2 ⟨rfl, hb2⟩
  go_wp2_with fail
  refine (quo5_any ((((H'.out.below ((Below.refl _ _).alloc (Nat.le_refl _) (.cells #[.bool false, .slice none 0 0] 40))).below ((Below.refl _ _).alloc (Nat.le_refl _) (.cells #[.bool false, .slice none 0 0] 40))).below hb1).below hb2) ((o_g.num l_g).below hb2) HG1.out (by omega) (by omega) (by omega) (by omega)).mono ?_
  rintro e w3 ⟨A_part, n_part, c_part, A_rr, n_rr, c_rr, rfl, o_part, o_rr, hb3, l_part, l_rr⟩
  go_wp2_with fail
  refine (Z5_nat (x := 0) rfl (by omega)).mono ?_
  rintro e w4 ⟨A_x9, n_x9, c_x9, s_x9, rfl, hs_x9, o_x9, hb4, l_x9⟩
  have hxb : w.heap.size + 1 < Array.size (World.heap (w4)) := (((((Cel.box (i := 1) (v := .slice none 0 0) (t := 40) (b := w.heap.size + 1) (World.alloc w (.cells #[.bool false, .slice none 0 0] 40)) #[.bool false, .slice none 0 0] rfl (by simp)).below hb1).below hb2).below hb3).below hb4).2.2
  go_wp2_with fail
  refine (zero5_any (((((((H.out.below ((Below.refl _ _).alloc (Nat.le_refl _) (.cells #[.bool false, .slice none 0 0] 40))).below ((Below.refl _ _).alloc (Nat.le_refl _) (.cells #[.bool false, .slice none 0 0] 40))).below hb1).below hb2).below hb3).below hb4).below ((Below.refl _ _).alloc (Nat.le_refl _) (.cells #[.bool s_x9, .slice A_x9 n_x9 c_x9] 40))) (by omega)).mono ?_
  rintro e w5 ⟨rfl, hb5⟩
  go_wp2_with fail
  refine (some5_any hK1 hK a ((((((((H.out.below ((Below.refl _ _).alloc (Nat.le_refl _) (.cells #[.bool false, .slice none 0 0] 40))).below ((Below.refl _ _).alloc (Nat.le_refl _) (.cells #[.bool false, .slice none 0 0] 40))).below hb1).below hb2).below hb3).below hb4).below ((Below.refl _ _).alloc (Nat.le_refl _) (.cells #[.bool s_x9, .slice A_x9 n_x9 c_x9] 40))).below hb5) ((((((((H'.out.below ((Below.refl _ _).alloc (Nat.le_refl _) (.cells #[.bool false, .slice none 0 0] 40))).below ((Below.refl _ _).alloc (Nat.le_refl _) (.cells #[.bool false, .slice none 0 0] 40))).below hb1).below hb2).below hb3).below hb4).below ((Below.refl _ _).alloc (Nat.le_refl _) (.cells #[.bool s_x9, .slice A_x9 n_x9 c_x9] 40))).below hb5) HA.out).mono ?_
  rintro e wy ⟨z, hz, A_sm, n_sm, c_sm, s_sm, rfl, hs_sm, o_sm, hby, l_sm⟩
  obtain ⟨k, hk1, hk2⟩ := ext_law HB0.out hz
  have HOK := Lib.hid (extok_of HB0.out hk1 hk2)
  have HK : Hid (sg false (Nat.gcd a b) - sg false (z % ((b / Nat.gcd a b : Nat) : Int)).toNat * sg false a = k * sg false b) := hk1
  clear hz hk1 hk2
  go_wp2_with fail
  refine (mod5_any (o_sm.num l_sm) (((((o_part.num l_part).below hb4).below ((Below.refl _ _).alloc (Nat.le_refl _) (.cells #[.bool s_x9, .slice A_x9 n_x9 c_x9] 40))).below hb5).below hby) (sg_of hs_sm.out) HPP.out (by omega) (by omega) (by omega) (by omega)).mono ?_
  rintro e w6 ⟨A_md, n_md, c_md, rfl, o_md, hb6, l_md⟩
  generalize (z % ((b / Nat.gcd a b : Nat) : Int)).toNat = M at *
  have HX0 : Hid (w.heap.size + 1 < Array.size (World.heap (w6))) := (((((((((Cel.box (i := 1) (v := .slice none 0 0) (t := 40) (b := w.heap.size + 1) (World.alloc w (.cells #[.bool false, .slice none 0 0] 40)) #[.bool false, .slice none 0 0] rfl (by simp)).below hb1).below hb2).below hb3).below hb4).below ((Below.refl _ _).alloc (Nat.le_refl _) (.cells #[.bool s_x9, .slice A_x9 n_x9 c_x9] 40))).below hb5).below hby).below hb6).2.2
  have HXB := Lib.hid ((((Cel.box (i := 0) (v := .bool s_x9) (t := 40) (b := w4.heap.size) w4 #[.bool s_x9, .slice A_x9 n_x9 c_x9] rfl (by simp)).below hb5).below hby).below hb6)
  go_wp2_with fail
  refine (I5_any (s := false) (o_md.num l_md) (by omega)).mono ?_
  rintro e w7 ⟨A_x, n_x, c_x, s_x, rfl, hs_x, o_x, hb7, l_x⟩
  obtain rfl : s_x = false := hs_x.out.trans (by rw [sg_false]; simp)
  have HSX := Lib.hid (sg_of hs_x.out)
  have c1 := (((((Cel.box (i := 0) (v := .bool s_x9) (t := 40) (b := w4.heap.size) w4 #[.bool s_x9, .slice A_x9 n_x9 c_x9] rfl (by simp)).below hb5).below hby).below hb6).below hb7)
  have c2 := (((((Cel.box (i := 1) (v := .slice A_x9 n_x9 c_x9) (t := 40) (b := w4.heap.size) w4 #[.bool s_x9, .slice A_x9 n_x9 c_x9] rfl (by simp)).below hb5).below hby).below hb6).below hb7)
  have HT0 := Lib.hid (((((Cel.box (i := 0) (v := .bool s_x9) (t := 40) (b := w4.heap.size) w4 #[.bool s_x9, .slice A_x9 n_x9 c_x9] rfl (by simp)).below hb5).below hby).below hb6).below hb7)
  have HT1 := Lib.hid (((((Cel.box (i := 1) (v := .slice A_x9 n_x9 c_x9) (t := 40) (b := w4.heap.size) w4 #[.bool s_x9, .slice A_x9 n_x9 c_x9] rfl (by simp)).below hb5).below hby).below hb6).below hb7)
  obtain ⟨c1a, c1b, c1c⟩ := c1
  obtain ⟨c2a, c2b, c2c⟩ := c2
  have HRB := Lib.hid (bt (bt (bt (bt ((Below.refl _ _).alloc (Nat.le_refl _) (.cells #[.bool s_x9, .slice A_x9 n_x9 c_x9] 40)) hb5) hby) hb6) hb7)
  have HRX := Lib.hid o_x
  go_wp2_with fail
  obtain ⟨wq, hwq⟩ : ∃ wq : World, wq = ((w7).setCell ⟨(w4).heap.size, 0, none⟩ (.bool false)).setCell ⟨(w4).heap.size, 1, none⟩ (.slice A_x n_x c_x) := ⟨_, rfl⟩
  rw [← hwq]
  have HQ : Hid (Below (w4).heap.size (w4) wq ∧ At wq ⟨(w4).heap.size, 0, none⟩ (.bool false) ∧ At wq ⟨(w4).heap.size, 1, none⟩ (.slice A_x n_x c_x) ∧ Own .u64 49 (Array.size (World.heap (w6))) wq A_x n_x c_x (dg W (sg false M).natAbs)) := by
    rw [hwq]
    exact ⟨(HRB.out.setCell (p := ⟨_, 0, none⟩) (Nat.le_refl _) _).setCell (p := ⟨_, 1, none⟩) (Nat.le_refl _) _, Cel.at (HT0.out.put.set (by simp)), Cel.at ((HT1.out.set (by simp)).put), HRX.out.cells2 HXB.out.2.2⟩
  clear c1a c1b c1c c2a c2b c2c HRB HRX HT0 HT1 hwq o_x o_md
  have HWT : Hid (w.heap.size + 1 < Array.size (World.heap (wq))) := ((((((Cel.box (i := 1) (v := .slice none 0 0) (t := 40) (b := w.heap.size + 1) (World.alloc w (.cells #[.bool false, .slice none 0 0] 40)) #[.bool false, .slice none 0 0] rfl (by simp)).below hb1).below hb2).below hb3).below hb4).below HQ.out.1).2.2
  go_wp2_with fail
  have e_x0 := HQ.out.2.1.1
  have g_x0 := At.growB HQ.out.2.1
  have e_x1 := HQ.out.2.2.1.1
  have g_x1 := At.growB HQ.out.2.2.1
  refine wp_region_fltR (KB (wq).heap.size) (KB.refl _) (KB.trans _) (KB.of_grow _) [(0, 0), (0, 2), (0, 3), (0, 7), (2, 10), (1, 1), (1, 4), (1, 5), (1, 6), (1, 8), (1, 9), (4, 10), (3, 11)] (by kernel_rfl) (by kernel_rfl) ?_
  repeat (refine flt_pas (by rfl) (fun K hK => ?_); go_simp; refine hK _ _ (fun w' hw' => (by first | (go_simp; done) | (go_simp; intro hh; cases hh))) ?_; clear hK K)
  refine flt_alloc ((World.drew wq).heap.size) 40 #[.bool false, .slice none 0 0] (by rfl) rfl (fun w1 => (by go_simp)) (Nat.le_refl _) ?_
  refine flt_call (by rfl) (fun w8 hw8 K hK => ?_); go_simp; refine hK _ _ ?_; clear hK K
  refine (I5_any (s := false) (((((((o_g.num l_g).below hb2).below hb3).below hb4).below HQ.out.1).below (below_drewN _ 1)).below hw8.below) (by omega)).mono ?_
  rintro e w9 ⟨A_i1, n_i1, c_i1, s_i1, rfl, hs_i1, o_i1, hb9, l_i1⟩
  refine ⟨_, rfl, Grow.of_below hb9, ?_⟩
  (refine flt_norm (fun K hK => ?_); go_simp; refine hK _ ?_; clear hK K)
  refine flt_call (by rfl) (fun w10 hw10 K hK => ?_); go_simp; refine hK _ _ ?_; clear hK K
  refine (I5_any (s := false) (((((((((((H.out.below ((Below.refl _ _).alloc (Nat.le_refl _) (.cells #[.bool false, .slice none 0 0] 40))).below ((Below.refl _ _).alloc (Nat.le_refl _) (.cells #[.bool false, .slice none 0 0] 40))).below hb1).below hb2).below hb3).below hb4).below HQ.out.1).below (below_drewN _ 1)).below hw8.below).below hb9).below hw10.below) (by omega)).mono ?_
  rintro e w11 ⟨A_i2, n_i2, c_i2, s_i2, rfl, hs_i2, o_i2, hb11, l_i2⟩
  refine ⟨_, rfl, Grow.of_below hb11, ?_⟩
  (refine flt_norm (fun K hK => ?_); go_simp; refine hK _ ?_; clear hK K)
  refine flt_call (by rfl) (fun w12 hw12 K hK => ?_); go_simp; refine hK _ _ ?_; clear hK K
  refine (mul5_any ((((((((HQ.out.2.2.2).num l_x).below (below_drewN _ 1)).below hw8.below).below hb9).below hw10.below).below hb11).below hw12.below) ((o_i2.num l_i2).below hw12.below) HSX.out (sg_of hs_i2.out) (by omega) (by omega)).mono ?_
  rintro e w13 ⟨A_m1, n_m1, c_m1, s_m1, rfl, hs_m1, o_m1, hb13, l_m1⟩
  refine ⟨_, rfl, Grow.of_below hb13, ?_⟩
  (refine flt_norm (fun K hK => ?_); go_simp; refine hK _ ?_; clear hK K)
  refine flt_call (by rfl) (fun w14 hw14 K hK => ?_); go_simp; refine hK _ _ ?_; clear hK K
  refine (sub5_any ((((((o_i1.num l_i1).below hw10.below).below hb11).below hw12.below).below hb13).below hw14.below) ((o_m1.num l_m1).below hw14.below) (sg_of hs_i1.out) (sg_of hs_m1.out) (by omega) (by omega) (by omega) (by omega)).mono ?_
  rintro e w15 ⟨A_d1, n_d1, c_d1, s_d1, rfl, hs_d1, o_d1, hb15, l_d1⟩
  refine ⟨_, rfl, Grow.of_below hb15, ?_⟩
  (refine flt_norm (fun K hK => ?_); go_simp; refine hK _ ?_; clear hK K)
  refine flt_call (by rfl) (fun w16 hw16 K hK => ?_); go_simp; refine hK _ _ ?_; clear hK K
  refine (I5_any (s := false) (((((((((((((((((H'.out.below ((Below.refl _ _).alloc (Nat.le_refl _) (.cells #[.bool false, .slice none 0 0] 40))).below ((Below.refl _ _).alloc (Nat.le_refl _) (.cells #[.bool false, .slice none 0 0] 40))).below hb1).below hb2).below hb3).below hb4).below HQ.out.1).below (below_drewN _ 1)).below hw8.below).below hb9).below hw10.below).below hb11).below hw12.below).below hb13).below hw14.below).below hb15).below hw16.below) (by omega)).mono ?_
  rintro e w17 ⟨A_i3, n_i3, c_i3, s_i3, rfl, hs_i3, o_i3, hb17, l_i3⟩
  refine ⟨_, rfl, Grow.of_below hb17, ?_⟩
  (refine flt_norm (fun K hK => ?_); go_simp; refine hK _ ?_; clear hK K)
  refine flt_call (by rfl) (fun w18 hw18 K hK => ?_); go_simp; refine hK _ _ ?_; clear hK K
  refine (exact5_any ((((o_d1.num l_d1).below hw16.below).below hb17).below hw18.below) ((o_i3.num l_i3).below hw18.below) (k := k) (by rw [(sg_of hs_d1.out), (sg_of hs_i3.out)]; exact HK.out) (by rw [sg_false]; exact HB0.out) (by omega) (by omega) (by omega) (by omega)).mono ?_
  rintro e w19 ⟨A_y, n_y, c_y, s_y, rfl, hs_y, o_y, hb19, l_y⟩
  refine ⟨_, rfl, Grow.of_below hb19, ?_⟩
  (refine flt_norm (fun K hK => ?_); go_simp; refine hK _ ?_; clear hK K)
  refine flt_land (by rfl) (fun v_zb w20 hw20 hF => ?_)
  obtain ⟨b_zb, rfl, hB_zb, hc_zb⟩ := hF
  (refine flt_norm (fun K hK => ?_); go_simp; refine hK _ ?_; clear hK K)
  obtain ⟨cz1, cz2, cz3⟩ := cel_of hc_zb (j := 0) rfl
  obtain ⟨cz4, cz5, cz6⟩ := cel_of hc_zb (j := 1) rfl
  (refine flt_actX (by rfl) (fun K hK => ?_); go_simp)
  refine hK _ _ ⟨KB.set2 hB_zb, ?_⟩
  clear hK K
  repeat (refine flt_pas (by rfl) (fun K hK => ?_); go_simp; refine hK _ _ (fun w' hw' => (by first | (go_simp; done) | (go_simp; intro hh; cases hh))) ?_; clear hK K)
  refine flt_nil ?_
  clear g_x0 e_x0 g_x1 e_x1
  have HKX : Hid ((∃ B, w.heap.size + 1 < B ∧ Own .u64 49 B (w20) A_y n_y c_y (dg W k.natAbs)) ∧ Below ((World.drew wq)).heap.size ((World.drew wq)) (w20)) := ⟨⟨_, Nat.lt_of_lt_of_le HWT.out (bt (bt (bt (bt (bt (bt (bt (bt (bt (bt hw8.below hb9) hw10.below) hb11) hw12.below) hb13) hw14.below) hb15) hw16.below) hb17) hw18.below).size, (o_y.below hw20.below)⟩, (bt (bt (bt (bt (bt (bt (bt (bt (bt (bt (bt (bt hw8.below hb9) hw10.below) hb11) hw12.below) hb13) hw14.below) hb15) hw16.below) hb17) hw18.below) hb19) hw20.below)⟩
  obtain ⟨wz, hwz⟩ : ∃ wz : World, wz = ((w20).setCell ⟨b_zb, 0, none⟩ (.bool s_y)).setCell ⟨b_zb, 1, none⟩ (.slice A_y n_y c_y) := ⟨_, rfl⟩
  rw [← hwz]
  have HZ : Hid (Below ((World.drew wq)).heap.size ((World.drew wq)) wz ∧ At wz ⟨b_zb, 0, none⟩ (.bool s_y) ∧ At wz ⟨b_zb, 1, none⟩ (.slice A_y n_y c_y) ∧ ∃ B, w.heap.size + 1 < B ∧ Own .u64 49 B wz A_y n_y c_y (dg W k.natAbs)) := by
    rw [hwz]
    refine ⟨((HKX.out.2).setCell (p := ⟨b_zb, 0, none⟩) hB_zb _).setCell (p := ⟨b_zb, 1, none⟩) hB_zb _, Cel.at ((Cel.put ⟨cz1, cz2, cz3⟩).set (by simp)), Cel.at ((Cel.set ⟨cz4, cz5, cz6⟩ (by simp)).put), ?_⟩
    have hb : BoxT 40 b_zb _ := ⟨_, _, hc_zb⟩
    obtain ⟨B, hB, ho⟩ := HKX.out.1
    exact ⟨B, hB, (ho.set_ty (p := ⟨b_zb, 0, none⟩) hb (by decide)).set_ty (p := ⟨b_zb, 1, none⟩) hb.set (by decide)⟩
  clear HKX
  clear cz1 cz2 cz3 cz4 cz5 cz6 hwz hc_zb o_i1 o_m1 o_i2 o_d1 o_i3 o_y
  have hzb : w.heap.size + 1 < b_zb := Nat.lt_of_lt_of_le HWT.out hB_zb
  have c1 := (((((((((Cel.box (i := 0) (v := .bool false) (t := 40) (b := w.heap.size) w #[.bool false, .slice none 0 0] rfl (by simp)).below ((Below.refl _ _).alloc (Nat.le_refl _) (.cells #[.bool false, .slice none 0 0] 40))).below hb1).below hb2).below hb3).below hb4).below HQ.out.1).below (below_drewN _ 1)).below HZ.out.1)
  have c2 := (((((((((Cel.box (i := 1) (v := .slice none 0 0) (t := 40) (b := w.heap.size) w #[.bool false, .slice none 0 0] rfl (by simp)).below ((Below.refl _ _).alloc (Nat.le_refl _) (.cells #[.bool false, .slice none 0 0] 40))).below hb1).below hb2).below hb3).below hb4).below HQ.out.1).below (below_drewN _ 1)).below HZ.out.1)
  have c3 := ((((((((Cel.box (i := 0) (v := .bool false) (t := 40) (b := w.heap.size + 1) (World.alloc w (.cells #[.bool false, .slice none 0 0] 40)) #[.bool false, .slice none 0 0] rfl (by simp)).below hb1).below hb2).below hb3).below hb4).below HQ.out.1).below (below_drewN _ 1)).below HZ.out.1)
  have c4 := ((((((((Cel.box (i := 1) (v := .slice none 0 0) (t := 40) (b := w.heap.size + 1) (World.alloc w (.cells #[.bool false, .slice none 0 0] 40)) #[.bool false, .slice none 0 0] rfl (by simp)).below hb1).below hb2).below hb3).below hb4).below HQ.out.1).below (below_drewN _ 1)).below HZ.out.1)
  obtain ⟨c1a, c1b, c1c⟩ := c1
  obtain ⟨c2a, c2b, c2c⟩ := c2
  obtain ⟨c3a, c3b, c3c⟩ := c3
  obtain ⟨c4a, c4b, c4c⟩ := c4
  go_wp2_with fail
  have e_x0 := ((HQ.out.2.1.below (below_drewN _ 1)).below HZ.out.1).1
  have g_x0 := At.growE (b1 := w.heap.size) (b2 := (w.heap.size + 1)) ((HQ.out.2.1.below (below_drewN _ 1)).below HZ.out.1) (by simp <;> omega) (by simp <;> omega)
  have e_x1 := ((HQ.out.2.2.1.below (below_drewN _ 1)).below HZ.out.1).1
  have g_x1 := At.growE (b1 := w.heap.size) (b2 := (w.heap.size + 1)) ((HQ.out.2.2.1.below (below_drewN _ 1)).below HZ.out.1) (by simp <;> omega) (by simp <;> omega)
  have e_z0 := HZ.out.2.1.1
  have g_z0 := At.growE (b1 := w.heap.size) (b2 := (w.heap.size + 1)) HZ.out.2.1 (by simp <;> omega) (by simp <;> omega)
  have e_z1 := HZ.out.2.2.1.1
  have g_z1 := At.growE (b1 := w.heap.size) (b2 := (w.heap.size + 1)) HZ.out.2.2.1 (by simp <;> omega) (by simp <;> omega)
  refine wp_region_fltR (KE w.heap.size (w.heap.size + 1)) (KE.refl _ _) (KE.trans _ _) (KE.of_grow _ _) [(0, 0), (0, 1), (0, 2), (0, 3), (3, 4), (3, 5)] (by kernel_rfl) (by kernel_rfl) ?_
  repeat (refine flt_pasE (by rfl) (fun K hK => ?_); go_simp; refine hK _ _ (fun w' hw' => (by first | (go_simp; done) | (go_simp; intro hh; cases hh))) ?_; clear hK K)
  (refine flt_actX (by rfl) (fun K hK => ?_); go_simp)
  refine hK _ _ ⟨KE.set2 (.inl rfl), ?_⟩
  clear hK K
  (refine flt_norm (fun K hK => ?_); go_simp; refine hK _ ?_; clear hK K)
  (refine flt_actX (by rfl) (fun K hK => ?_); go_simp)
  refine hK _ _ ⟨KE.set2 (.inr rfl), ?_⟩
  clear hK K
  refine flt_nil ?_
  have HOG := Lib.hid (((((((o_g.below hb2).below hb3).below hb4).below HQ.out.1).below (below_drewN _ 1)).below HZ.out.1).below (below_drewN _ 1))
  have HOX := Lib.hid (((HQ.out.2.2.2.below (below_drewN _ 1)).below HZ.out.1).below (below_drewN _ 1))
  have HBB := Lib.hid (bt (bt (bt (bt (bt (bt (bt (bt (bt ((Below.refl _ _).alloc (Nat.le_refl _) (.cells #[.bool false, .slice none 0 0] 40)) ((Below.refl _ _).alloc (Nat.le_refl _) (.cells #[.bool false, .slice none 0 0] 40))) hb1) hb2) hb3) hb4) HQ.out.1) (below_drewN _ 1)) HZ.out.1) (below_drewN _ 1))
  go_wp2
  refine bodyPost_ret (v := .tuple #[.slice A_g n_g c_g, .agg #[.bool false, .slice A_x n_x c_x], .agg #[.bool s_y, .slice A_y n_y c_y]]) (by simp [results, Tryz.results16, go_sem, c1a, c2a, c3a, c4a]) rfl ?_
  obtain ⟨B, hB, hoy⟩ := HZ.out.2.2.2
  refine ⟨M, k.natAbs, s_y, _, _, _, _, _, _, _, _, _, by rw [hs_y.out]; exact HOK.out, rfl, ⟨(HOG.out.set4 HG0.out).mono (by have := HG0.out; omega), (HOX.out.set4 HX0.out).mono (by have := HX0.out; omega), ((show Own _ _ _ (World.drew wz) _ _ _ _ from hoy).set4 hB).mono (by omega)⟩, (((HBB.out.setCell (p := ⟨w.heap.size, 0, none⟩) (Nat.le_refl _) _).setCell (p := ⟨w.heap.size, 1, none⟩) (Nat.le_refl _) _).setCell (p := ⟨w.heap.size + 1, 0, none⟩) (by simp) _).setCell (p := ⟨w.heap.size + 1, 1, none⟩) (by simp) _, by omega, by omega, by omega⟩
theorem extended5_any {v u : Value} {a b K : Nat} {w : World} (h : Num w v a K) (h' : Num w u b K) (hK1 : 1 ≤ K) (hK : K ≤ 1000000) :
    Calls Tryz.prog 16 #[v, u] w (GExt w a b (2 * K + 1)) := by
  rcases Nat.eq_zero_or_pos b with hb | hb
  · rcases Nat.eq_zero_or_pos a with ha | ha
    · exact extended5_00 h h' ha hb hK1 hK
    · exact extended5_a0 h h' ha hb hK1 hK
  · rcases Nat.eq_zero_or_pos a with ha | ha
    · exact extended5_0b h h' ha hb hK1 hK
    · exact extended5_ab h h' ha hb hK1 hK
end Go.Proofs.YtbamhgpadfojfaaGreat
