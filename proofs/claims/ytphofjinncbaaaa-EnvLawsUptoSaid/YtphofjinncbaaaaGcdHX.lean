/-
  The helpers of the laws of layer 5 (surdlaw05): copied, copies, few, less, inForm, fixed. surdlaw05.fixed.
-/
import Derived.Test.YtphofjinncbaaaaIntR
import Derived.Test.YtphofjinncbaaaaOrdS
import Derived.Test.YtphofjinncbaaaaRows2
namespace Go.Proofs.Ytphofjinncbaaaa
open Go.RowKit
set_option linter.unusedVariables false

theorem Cel.put {w : World} {p : Addr} {v u : Value} (h : Cel w p v) : Cel (w.setCell p u) p u :=
  ⟨World.cell?_setCell_same _ _ _ h.1, by rw [World.frozen?_setCell]; exact h.2.1, by simpa [World.setCell] using h.2.2⟩
theorem Cel.set {w : World} {p q : Addr} {v u : Value} (h : Cel w p v) (hne : q ≠ p) : Cel (w.setCell q u) p v :=
  ⟨by rw [World.cell?_setCell_other _ _ _ _ hne]; exact h.1, by rw [World.frozen?_setCell]; exact h.2.1, by simpa [World.setCell] using h.2.2⟩
theorem Cel.drew {w : World} {p : Addr} {v : Value} (h : Cel w p v) : Cel w.drew p v := h
theorem dg_small {x : Nat} (h0 : 0 < x) (hx : x < W) : dg W x = [x] := by
  have := norm_dg (b := W) (xs := [x]) W_gt (All.cons hx All.nil) (strip_snoc (xs := []) (by omega))
  rw [this]
  simp [val]
/-- an own slice of one-cell values -/
def OwnV (T : TypeId) (B : Nat) (w : World) (A : Option Addr) (n c : Nat) (vs : List Value) : Prop := w.ownsRow B T 1 (.slice A n c) n vs
theorem OwnV.nil {T : TypeId} {B : Nat} {w : World} : OwnV T B w none 0 0 [] := World.ownsRow_nil _ _ _ _
theorem OwnV.below {T : TypeId} {B n c : Nat} {w w' : World} {A : Option Addr} {vs : List Value} (h : OwnV T B w A n c vs) (hb : Below w.heap.size w w') : OwnV T B w' A n c vs := ownsRow_below h hb
theorem wpList_appV {P : Program} {TT T : TypeId} {B : Nat} {w : World} {A : Option Addr} {n c c2 : Nat} {v : Value} {vs : List Value} {ops : Array Oper} {rest : List Oper} {o : Oper} {a : Act} {Q : Exit → Act → World → Prop} (hgd : o.guard = none) (s x : Operand)
    (ho : o.op = .call { callee := .builtin .append, args := #[s, x], argTypes := #[TT, TT] }) (he : ElemS P TT T)
    (hs : a.eval s = .slice A n c) {ad : Addr} (hx : a.eval x = .slice (some ad) 1 c2) (hown : OwnV T B w A n c vs) (hc : w.cell? ad = some v) (hv : v.oneCell' = true) (hlen : n + 1 ≤ 1099511627776) (hB : B ≤ w.heap.size)
    (h : ∀ A' c' w', OwnV T B w' A' (n + 1) c' (vs ++ [v]) → Below B w w' → wpList P ops Q rest (a.put o.dst (.slice A' (n + 1) c')) w') : wpList P ops Q (o :: rest) a w := by
  obtain ⟨hT, hinfo⟩ := he
  obtain ⟨i, hi, hz, hs1, hb⟩ := info_parts hinfo
  refine wpList_append_own_at w hgd s x TT ho B T i (.slice none 0 0) 1 24 hT hi hz hs1 hb rfl (by decide) _ n _ hs hown ad 1 c2 [v] hx rfl ?_ (by simp [hv]) (by simp only [maxLen]; omega) (by omega) hB ?_
  · intro j u hj
    rcases j with _ | j
    · simp at hj; subst hj
      have : ad.add 0 = ad := by unfold Addr.add; split <;> simp_all
      rw [this]; exact hc
    · simp at hj
  · intro v' w' h1 h2
    intros
    have hform : ∃ A' c', v' = .slice A' (n + 1) c' := by
      rcases h1.2 with ⟨h3, h4⟩ | ⟨g, cap, cur, hv, _⟩
      · omega
      · exact ⟨_, _, hv⟩
    obtain ⟨A', c', rfl⟩ := hform
    exact h A' c' w' h1 ((Below.refl _ _).grown h2 hB (fun g hg' => (World.ownsRow.lt hown g hg').1))
theorem OwnV.nums {T : TypeId} {B n c : Nat} {w : World} {A : Option Addr} {vs : List Value} {xs ls : List Nat} (h : OwnV T B w A n c vs) (hx : xs.length = n) (hl : ls.length = n) (hc : n ≤ c) (hv : ∀ i v, vs[i]? = some v → Num w v (nth xs i) (nth ls i)) : Nums w A n c xs ls := by
  refine ⟨⟨hx, hl, hc⟩, fun hn => ?_⟩
  have hvl : vs.length = n := by have := h.1; omega
  obtain ⟨g, cap, hvv, hb, hlt⟩ := World.ownsRow.form h hn
  injection hvv with hA _ hcc
  subst hA
  refine ⟨g, 0, rfl, hlt, fun i hi => ?_⟩
  refine ⟨vs[i]'(by omega), ?_, hv i _ (by rw [List.getElem?_eq_getElem])⟩
  rw [Nat.zero_add, World.ownsRow.cellAt h i (by omega), List.getElem?_eq_getElem (by omega)]
theorem OwnV.cap {T : TypeId} {B n c : Nat} {w : World} {A : Option Addr} {vs : List Value} (h : OwnV T B w A n c vs) : n ≤ c ∧ c ≤ maxLen := by
  rcases h.2 with ⟨h3, h4⟩ | ⟨g, cap, cur, hv, hg, hh, hnc, hcm, r⟩
  · injection h3 with _ e1 e2; subst e1; subst e2; exact ⟨Nat.le_refl _, Nat.zero_le _⟩
  · injection hv with _ _ e; subst e; exact ⟨hnc, hcm⟩
theorem OwnR.nums {t T : TypeId} {B n c : Nat} {w : World} {A : Option Addr} {F : Nat → List Nat → Prop} {xs ls : List Nat} (h : OwnR .u64 t T B w A n c F) (hx : xs.length = n) (hl : ls.length = n) (hF : ∀ i zs, F i zs → All W zs ∧ val W zs = nth xs i ∧ zs.length ≤ nth ls i) : Nums w A n c xs ls := by
  refine ⟨⟨hx, hl, h.cap.1⟩, fun hn => ?_⟩
  obtain ⟨g, _, _, _, _, rfl, _, hlt, _⟩ := h.at hn
  refine ⟨g, 0, rfl, hlt, fun i hi => ?_⟩
  obtain ⟨g', A', n', c', zs, eg, _, _, hc, ho, hf⟩ := h.at hi
  injection eg with eg
  injection eg with eg
  subst eg
  obtain ⟨f1, f2, f3⟩ := hF i zs hf
  exact ⟨_, by rw [Nat.zero_add]; exact hc, A', n', c', zs, rfl, ho.rd, f1, f2, by rw [← ho.len]; exact f3⟩

theorem val_take_mod {xs : List Nat} (h : All W xs) (k : Nat) : val W (xs.take k) = val W xs % W ^ k := by
  have h1 := val_take_lt h W_pos k
  have h2 : val W xs = val W (xs.take k) + W ^ k * val W (xs.drop k) := by
    have := val_append (b := W) (xs.take k) (xs.drop k)
    rw [List.take_append_drop] at this
    rw [this, List.length_take]
    by_cases hk : k ≤ xs.length
    · rw [Nat.min_eq_left hk]
    · rw [List.drop_of_length_le (by omega)]; simp [val]
  rw [h2, Nat.add_mul_mod_self_left, Nat.mod_eq_of_lt h1]
/-- one of the caller's slices, of so many words -/
def GFew (w0 w : World) (x : Nat) (e : Ending) (w' : World) : Prop := ∃ A n c, e = .returned (.slice A n c) ∧ Num w0 (.slice A n c) x 30 ∧ w = w'
theorem elNats5 : ElemS Try.prog 179 45 := ⟨Try.underlying179, by kernel_rfl⟩
/-- each list a number's: place by place -/
def FNum (xs ls : List Nat) (i : Nat) (zs : List Nat) : Prop := All W zs ∧ val W zs = nth xs i ∧ zs.length ≤ nth ls i
theorem nth_replicate {n i k : Nat} (h : i < n) : nth (List.replicate n k) i = k := by simp [nth, h]
theorem OwnV.set_low {T : TypeId} {B n c : Nat} {w : World} {A : Option Addr} {vs : List Value} {p : Addr} (h : OwnV T B w A n c vs) (hp : p.block < B) (u : Value) : OwnV T B (w.setCell p u) A n c vs := by
  refine ⟨h.1, ?_⟩
  rcases h.2 with h2 | ⟨g, cap, cur, hv, hg, hh, r⟩
  · exact .inl h2
  · refine .inr ⟨g, cap, cur, hv, hg, ?_, r⟩
    rw [Below.heap_setCell w p u g (by rintro rfl; omega)]
    exact hh
/-- the case in its box, the answer's box behind it -/
def LessB (w0 : World) (vs us : Array Value) (wr : World) : Prop :=
  Below w0.heap.size w0 wr ∧ w0.heap.size + 1 + 1 ≤ wr.heap.size ∧ (∀ i v, vs[i]? = some v → Cel wr ⟨w0.heap.size, i, none⟩ v) ∧ (∀ i v, us[i]? = some v → Cel wr ⟨w0.heap.size + 1, i, none⟩ v)
theorem LessB.start {w : World} {vs us : Array Value} {t : TypeId} : LessB w vs us (((w.alloc (.cells vs t)).alloc (.cells us t)).drew) := by
  refine ⟨((belowA w _).trans ((belowA _ _).mono (by simp))).drew, by simp [World.drew], fun i v h => ?_, fun i v h => ?_⟩
  · exact Cel.drew ((Cel.box w vs h rfl).below (belowA _ _))
  · exact Cel.drew (Cel.box _ us h (by simp))
theorem LessB.below {w0 w w' : World} {vs us : Array Value} (h : LessB w0 vs us w) (hb : Below w.heap.size w w') : LessB w0 vs us w' :=
  ⟨h.1.trans (hb.mono h.1.size), Nat.le_trans h.2.1 hb.size, fun i v e => (h.2.2.1 i v e).below hb, fun i v e => (h.2.2.2 i v e).below hb⟩
theorem LessB.step {w0 w w' : World} {vs us : Array Value} (h : LessB w0 vs us w) (hb : Below (w0.heap.size + 1 + 1) w w') : LessB w0 vs us w' := by
  have hc : ∀ {p : Addr} {v : Value}, p.block < w0.heap.size + 1 + 1 → Cel w p v → Cel w' p v := fun hp hcl => ⟨(hb.cell hp).trans hcl.1, (hb.frozen hp).trans hcl.2.1, Nat.lt_of_lt_of_le hcl.2.2 hb.size⟩
  exact ⟨h.1.trans (hb.mono (by omega)), Nat.le_trans h.2.1 hb.size, fun i v e => hc (by show w0.heap.size < _; omega) (h.2.2.1 i v e), fun i v e => hc (by show w0.heap.size + 1 < _; omega) (h.2.2.2 i v e)⟩
/-- numbers of the caller -/
def NumsV (w : World) (vs : List Value) : Prop := ∀ v, v ∈ vs → Num w v (mval w v) 30
theorem NumsV.snoc {w : World} {vs : List Value} {v : Value} {x : Nat} (h : NumsV w vs) (hv : Num w v x 30) : NumsV w (vs ++ [v]) := by
  intro u hu
  rcases List.mem_append.1 hu with h1 | h1
  · exact h u h1
  · simp at h1; subst h1; rw [mval_num hv]; exact hv
theorem NumsV.nums {T : TypeId} {w w' : World} {B n q : Nat} {A : Option Addr} {vs : List Value} (h : NumsV w vs) (ho : OwnV T B w' A n q vs) (hb : Below w.heap.size w w') : Nums w' A n q (vs.map (mval w)) (List.replicate n 30) := by
  have hvl : vs.length = n := by have := ho.1; omega
  refine ho.nums (by simp [hvl]) (by simp) ho.cap.1 fun i v hv => ?_
  have hi : i < vs.length := (List.getElem?_eq_some_iff.1 hv).1
  rw [nth_replicate (by omega)]
  have e : nth (vs.map (mval w)) i = mval w v := by simp [nth, hv]
  rw [e]
  exact (h v (List.mem_of_getElem? hv)).below hb
def set8 (b : Nat) (w : World) (u3 u4 v0 v1 v2 v3 v4 v5 : Value) : World :=
  ((((((((w.setCell ⟨b, 3, none⟩ u3).setCell ⟨b, 4, none⟩ u4).setCell ⟨b + 1, 0, none⟩ v0).setCell ⟨b + 1, 1, none⟩ v1).setCell ⟨b + 1, 2, none⟩ v2).setCell ⟨b + 1, 3, none⟩ v3).setCell ⟨b + 1, 4, none⟩ v4).setCell ⟨b + 1, 5, none⟩ v5)
theorem OwnV.set8 {T : TypeId} {B n c b : Nat} {w : World} {A : Option Addr} {vs : List Value} {u3 u4 v0 v1 v2 v3 v4 v5 : Value} (h : OwnV T B w A n c vs) (hb : b + 1 < B) : OwnV T B (set8 b w u3 u4 v0 v1 v2 v3 v4 v5) A n c vs :=
  ((((((((h.set_low (p := ⟨b, 3, none⟩) (by show b < B; omega) _).set_low (p := ⟨b, 4, none⟩) (by show b < B; omega) _).set_low (p := ⟨b + 1, 0, none⟩) hb _).set_low (p := ⟨b + 1, 1, none⟩) hb _).set_low (p := ⟨b + 1, 2, none⟩) hb _).set_low (p := ⟨b + 1, 3, none⟩) hb _).set_low (p := ⟨b + 1, 4, none⟩) hb _).set_low (p := ⟨b + 1, 5, none⟩) hb _)
theorem OwnV.mono {T : TypeId} {B B' n c : Nat} {w : World} {A : Option Addr} {vs : List Value} (h : OwnV T B w A n c vs) (hB : B' ≤ B) : OwnV T B' w A n c vs := by
  refine ⟨h.1, ?_⟩
  rcases h.2 with h2 | ⟨g, cap, cur, hv, hg, r⟩
  · exact .inl h2
  · exact .inr ⟨g, cap, cur, hv, by omega, r⟩
/-- what less answers: numbers of the caller's (world w0) -/
def LessP (T : TypeId) (w0 w : World) (a b k : Nat) (N : Int) (e : Ending) (w' : World) : Prop :=
  ∃ uA uB uK A n q vs A' m r us, e = .returned (.agg #[uA, uB, uK, .slice A n q, .slice A' m r, .int .i64 N]) ∧ (Num w0 uA a 30 ∧ Num w0 uB b 30 ∧ Num w0 uK k 30) ∧ (n ≤ 20 ∧ OwnV T w.heap.size w' A n q vs ∧ NumsV w0 vs) ∧ (m ≤ 20 ∧ OwnV T w.heap.size w' A' m r us ∧ NumsV w0 us) ∧ Below w.heap.size w w'
theorem less_fin {w0 w wr : World} {pA pB pK : Option Addr} {nA cA nB cB nK cK a b k n q m r B2 : Nat} {A A' : Option Addr} {vs us : List Value} {T : TypeId} {N : Int} {u3 u4 v0 v1 v2 v3 v4 v5 : Value}
    (h1 : Num w0 (.slice pA nA cA) a 30) (h2 : Num w0 (.slice pB nB cB) b 30) (h3 : Num w0 (.slice pK nK cK) k 30) (hb0 : Below w.heap.size w wr)
    (hn : n ≤ 20) (hv : NumsV w0 vs) (ho : OwnV T (w.heap.size + 1 + 1) wr A n q vs) (hm : m ≤ 20) (hu : NumsV w0 us) (ho' : OwnV T B2 wr A' m r us) (hB2 : w.heap.size + 1 < B2) :
    LessP T w0 w a b k N (.returned (.agg #[.slice pA nA cA, .slice pB nB cB, .slice pK nK cK, .slice A n q, .slice A' m r, .int .i64 N])) (set8 w.heap.size wr u3 u4 v0 v1 v2 v3 v4 v5) := by
  have hb : Below w.heap.size w (set8 w.heap.size wr u3 u4 v0 v1 v2 v3 v4 v5) := (((((((hb0.setCell (p := ⟨w.heap.size, 3, none⟩) (by simp) _).setCell (p := ⟨w.heap.size, 4, none⟩) (by simp) _).setCell (p := ⟨w.heap.size + 1, 0, none⟩) (by simp) _).setCell (p := ⟨w.heap.size + 1, 1, none⟩) (by simp) _).setCell (p := ⟨w.heap.size + 1, 2, none⟩) (by simp) _).setCell (p := ⟨w.heap.size + 1, 3, none⟩) (by simp) _).setCell (p := ⟨w.heap.size + 1, 4, none⟩) (by simp) _).setCell (p := ⟨w.heap.size + 1, 5, none⟩) (by simp) _
  exact ⟨_, _, _, _, _, _, _, _, _, _, _, rfl, ⟨h1, h2, h3⟩, ⟨hn, (ho.set8 (by omega)).mono (by omega), hv⟩, ⟨hm, (ho'.set8 hB2).mono (by omega), hu⟩, hb⟩
end Go.Proofs.Ytphofjinncbaaaa
namespace Go.Proofs.Ytphofjinncbaaaa
open Go.RowKit
set_option linter.unusedVariables false

theorem ext_12_18 {x y : Nat} {neg : Bool} (h : ExtOk 12 18 x y neg) : x = 2 ∧ y = 1 ∧ neg = true := by
  obtain ⟨h1, _, h3⟩ := h
  have e : Nat.gcd 12 18 = 6 := by decide
  rw [e] at h1 h3
  have h4 := h3 (by omega)
  rcases h1 with ⟨h5, h6, h7⟩ | ⟨h5, h6⟩
  · exact ⟨by omega, by omega, h5⟩
  · omega
end Go.Proofs.Ytphofjinncbaaaa
