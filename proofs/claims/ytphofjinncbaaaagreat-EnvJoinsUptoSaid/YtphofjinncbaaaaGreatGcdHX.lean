/-
  The helpers of the laws of layer 5 (surdlaw05): copied, copies, few, less, inForm, fixed. surdlaw05.fixed.
-/
import Derived.Test.YtphofjinncbaaaaGreatIntR
import Derived.Test.YtphofjinncbaaaaGreatOrdS
import Derived.Test.YtphofjinncbaaaaGreatRows2
namespace Go.Proofs.YtphofjinncbaaaaGreat
open Go.RowKit
set_option linter.unusedVariables false

theorem Cel.put {w : World} {p : Addr} {v u : Value} (h : Cel w p v) : Cel (w.setCell p u) p u :=
  ⟨World.cell?_setCell_same _ _ _ h.1, by rw [World.frozen?_setCell]; exact h.2.1, by simpa [World.setCell] using h.2.2⟩
theorem Cel.set {w : World} {p q : Addr} {v u : Value} (h : Cel w p v) (hne : q ≠ p) : Cel (w.setCell q u) p v :=
  ⟨by rw [World.cell?_setCell_other _ _ _ _ hne]; exact h.1, by rw [World.frozen?_setCell]; exact h.2.1, by simpa [World.setCell] using h.2.2⟩
theorem Cel.drew {w : World} {p : Addr} {v : Value} (h : Cel w p v) : Cel w.drew p v := h
theorem dg_small {x : Nat} (h0 : 0 < x) (hx : x < W) : dg W x = [x] := by
  have := norm_dg (b := W) (xs := [x]) W_gt (All.cons hx All.nil) (strip_snoc (xs := []) (by omega))
  rw [this]
  simp [val]
/-- an own slice of one-cell values -/
def OwnV (T : TypeId) (B : Nat) (w : World) (A : Option Addr) (n c : Nat) (vs : List Value) : Prop := w.ownsRow B T 1 (.slice A n c) n vs
theorem OwnV.nil {T : TypeId} {B : Nat} {w : World} : OwnV T B w none 0 0 [] := World.ownsRow_nil _ _ _ _
theorem OwnV.below {T : TypeId} {B n c : Nat} {w w' : World} {A : Option Addr} {vs : List Value} (h : OwnV T B w A n c vs) (hb : Below w.heap.size w w') : OwnV T B w' A n c vs := ownsRow_below h hb
theorem wpList_appV {P : Program} {TT T : TypeId} {B : Nat} {w : World} {A : Option Addr} {n c c2 : Nat} {v : Value} {vs : List Value} {ops : Array Oper} {rest : List Oper} {o : Oper} {a : Act} {Q : Exit → Act → World → Prop} (hgd : o.guard = none) (s x : Operand)
    (ho : o.op = .call { callee := .builtin .append, args := #[s, x], argTypes := #[TT, TT] }) (he : ElemS P TT T)
    (hs : a.eval s = .slice A n c) {ad : Addr} (hx : a.eval x = .slice (some ad) 1 c2) (hown : OwnV T B w A n c vs) (hc : w.cell? ad = some v) (hv : v.oneCell' = true) (hlen : n + 1 ≤ 1099511627776) (hB : B ≤ w.heap.size)
    (h : ∀ A' c' w', OwnV T B w' A' (n + 1) c' (vs ++ [v]) → Below B w w' → wpList P ops Q rest (a.put o.dst (.slice A' (n + 1) c')) w') : wpList P ops Q (o :: rest) a w := by
  obtain ⟨hT, hinfo⟩ := he
  obtain ⟨i, hi, hz, hs1, hb⟩ := info_parts hinfo
  refine wpList_append_own_at w hgd s x TT ho B T i (.slice none 0 0) 1 24 hT hi hz hs1 hb rfl (by decide) _ n _ hs hown ad 1 c2 [v] hx rfl ?_ (by simp [hv]) (by simp only [maxLen]; omega) (by omega) hB ?_
  · intro j u hj
    rcases j with _ | j
    · simp at hj; subst hj
      have : ad.add 0 = ad := by unfold Addr.add; split <;> simp_all
      rw [this]; exact hc
    · simp at hj
  · intro v' w' h1 h2
    intros
    have hform : ∃ A' c', v' = .slice A' (n + 1) c' := by
      rcases h1.2 with ⟨h3, h4⟩ | ⟨g, cap, cur, hv, _⟩
      · omega
      · exact ⟨_, _, hv⟩
    obtain ⟨A', c', rfl⟩ := hform
    exact h A' c' w' h1 ((Below.refl _ _).grown h2 hB (fun g hg' => (World.ownsRow.lt hown g hg').1))
theorem OwnV.nums {T : TypeId} {B n c : Nat} {w : World} {A : Option Addr} {vs : List Value} {xs ls : List Nat} (h : OwnV T B w A n c vs) (hx : xs.length = n) (hl : ls.length = n) (hc : n ≤ c) (hv : ∀ i v, vs[i]? = some v → Num w v (nth xs i) (nth ls i)) : Nums w A n c xs ls := by
  refine ⟨⟨hx, hl, hc⟩, fun hn => ?_⟩
  have hvl : vs.length = n := by have := h.1; omega
  obtain ⟨g, cap, hvv, hb, hlt⟩ := World.ownsRow.form h hn
  injection hvv with hA _ hcc
  subst hA
  refine ⟨g, 0, rfl, hlt, fun i hi => ?_⟩
  refine ⟨vs[i]'(by omega), ?_, hv i _ (by rw [List.getElem?_eq_getElem])⟩
  rw [Nat.zero_add, World.ownsRow.cellAt h i (by omega), List.getElem?_eq_getElem (by omega)]
theorem OwnV.cap {T : TypeId} {B n c : Nat} {w : World} {A : Option Addr} {vs : List Value} (h : OwnV T B w A n c vs) : n ≤ c ∧ c ≤ maxLen := by
  rcases h.2 with ⟨h3, h4⟩ | ⟨g, cap, cur, hv, hg, hh, hnc, hcm, r⟩
  · injection h3 with _ e1 e2; subst e1; subst e2; exact ⟨Nat.le_refl _, Nat.zero_le _⟩
  · injection hv with _ _ e; subst e; exact ⟨hnc, hcm⟩
theorem OwnR.nums {t T : TypeId} {B n c : Nat} {w : World} {A : Option Addr} {F : Nat → List Nat → Prop} {xs ls : List Nat} (h : OwnR .u64 t T B w A n c F) (hx : xs.length = n) (hl : ls.length = n) (hF : ∀ i zs, F i zs → All W zs ∧ val W zs = nth xs i ∧ zs.length ≤ nth ls i) : Nums w A n c xs ls := by
  refine ⟨⟨hx, hl, h.cap.1⟩, fun hn => ?_⟩
  obtain ⟨g, _, _, _, _, rfl, _, hlt, _⟩ := h.at hn
  refine ⟨g, 0, rfl, hlt, fun i hi => ?_⟩
  obtain ⟨g', A', n', c', zs, eg, _, _, hc, ho, hf⟩ := h.at hi
  injection eg with eg
  injection eg with eg
  subst eg
  obtain ⟨f1, f2, f3⟩ := hF i zs hf
  exact ⟨_, by rw [Nat.zero_add]; exact hc, A', n', c', zs, rfl, ho.rd, f1, f2, by rw [← ho.len]; exact f3⟩

set_option maxHeartbeats 400000 in
theorem copied05_any {v : Value} {x L : Nat} {w : World} (h : Num w v x L) (hL : L ≤ 1099511627776) : Calls Tryz.prog 43 #[v] w (GV w x L) := by
  obtain ⟨A, n, c, xs, rfl, h1, h2, h3, h4⟩ := h
  have H := Lib.hid h1
  have HP := Lib.hid (And.intro h2 h3)
  have HE := Lib.hid elN
  clear h1 h2 h3
  go_enter Tryz.func43, Tryz.ntmps43
  go_wp2_with (at_builtin; (refine wpList_app rfl (.tmp 3) (.tmp 4) rfl HE.out (t := 81) (k := .u64) (B := w.heap.size) (xs := []) (ys := xs) rfl rfl (Own.lit0 w (Nat.le_refl _)) (H.out.alloc _) (by omega) (by simp) ?_); intro B1 e1 w1 ho1 hb1 _ _)
  go_ret
  rw [Nat.zero_add] at ho1
  exact ⟨_, _, _, _, rfl, ho1, HP.out.1, HP.out.2, (belowA _ _).trans hb1, h4⟩
theorem val_take_mod {xs : List Nat} (h : All W xs) (k : Nat) : val W (xs.take k) = val W xs % W ^ k := by
  have h1 := val_take_lt h W_pos k
  have h2 : val W xs = val W (xs.take k) + W ^ k * val W (xs.drop k) := by
    have := val_append (b := W) (xs.take k) (xs.drop k)
    rw [List.take_append_drop] at this
    rw [this, List.length_take]
    by_cases hk : k ≤ xs.length
    · rw [Nat.min_eq_left hk]
    · rw [List.drop_of_length_le (by omega)]; simp [val]
  rw [h2, Nat.add_mul_mod_self_left, Nat.mod_eq_of_lt h1]
/-- one of the caller's slices, of so many words -/
def GFew (w0 w : World) (x : Nat) (e : Ending) (w' : World) : Prop := ∃ A n c, e = .returned (.slice A n c) ∧ Num w0 (.slice A n c) x 30 ∧ w = w'
set_option maxHeartbeats 400000 in
theorem few05_any {v : Value} {x L : Nat} {w0 w : World} (h : Num w0 v x L) : Calls Tryz.prog 68 #[v] w (GFew w0 w (x % W ^ 30)) := by
  obtain ⟨A, n, c, xs, rfl, h1, h2, rfl, h4⟩ := h
  have hcap := h1.cap
  have HN : Hid (Num w0 (.slice A (min n 30) c) (val W xs % W ^ 30) 30) := ⟨_, _, _, _, rfl, h1.upto (j := min n 30) (by omega), h2.take _, by
    rw [← val_take_mod h2]
    by_cases hn : n ≤ 30
    · rw [Nat.min_eq_left hn, val_take_ge (by rw [h1.len]; exact Nat.le_refl _), val_take_ge (by rw [h1.len]; exact hn)]
    · rw [Nat.min_eq_right (by omega)], by omega⟩
  have e1 := lay (show min (n : Int) 30 = ((min n 30 : Nat) : Int) by omega)
  have i1 : ((min n 30 : Nat) : Int) ≤ (c : Int) := by omega
  have i0 : (0 : Int) ≤ ((min n 30 : Nat) : Int) := by omega
  generalize val W xs % W ^ 30 = x at *
  generalize min n 30 = m at *
  clear h1 h2 h4
  go_enter Tryz.func68, Tryz.ntmps68
  go_wp2
  go_ret
  exact ⟨_, _, _, rfl, HN.out, rfl⟩

theorem elNats5 : ElemS Tryz.prog 65 58 := ⟨Tryz.underlying65, by kernel_rfl⟩
/-- each list a number's: place by place -/
def FNum (xs ls : List Nat) (i : Nat) (zs : List Nat) : Prop := All W zs ∧ val W zs = nth xs i ∧ zs.length ≤ nth ls i
theorem nth_replicate {n i k : Nat} (h : i < n) : nth (List.replicate n k) i = k := by simp [nth, h]
theorem OwnV.set_low {T : TypeId} {B n c : Nat} {w : World} {A : Option Addr} {vs : List Value} {p : Addr} (h : OwnV T B w A n c vs) (hp : p.block < B) (u : Value) : OwnV T B (w.setCell p u) A n c vs := by
  refine ⟨h.1, ?_⟩
  rcases h.2 with h2 | ⟨g, cap, cur, hv, hg, hh, r⟩
  · exact .inl h2
  · refine .inr ⟨g, cap, cur, hv, hg, ?_, r⟩
    rw [Below.heap_setCell w p u g (by rintro rfl; omega)]
    exact hh
/-- the case in its box, the answer's box behind it -/
def LessB (w0 : World) (vs us : Array Value) (wr : World) : Prop :=
  Below w0.heap.size w0 wr ∧ w0.heap.size + 1 + 1 ≤ wr.heap.size ∧ (∀ i v, vs[i]? = some v → Cel wr ⟨w0.heap.size, i, none⟩ v) ∧ (∀ i v, us[i]? = some v → Cel wr ⟨w0.heap.size + 1, i, none⟩ v)
theorem LessB.start {w : World} {vs us : Array Value} {t : TypeId} : LessB w vs us (((w.alloc (.cells vs t)).alloc (.cells us t)).drew) := by
  refine ⟨((belowA w _).trans ((belowA _ _).mono (by simp))).drew, by simp [World.drew], fun i v h => ?_, fun i v h => ?_⟩
  · exact Cel.drew ((Cel.box w vs h rfl).below (belowA _ _))
  · exact Cel.drew (Cel.box _ us h (by simp))
theorem LessB.below {w0 w w' : World} {vs us : Array Value} (h : LessB w0 vs us w) (hb : Below w.heap.size w w') : LessB w0 vs us w' :=
  ⟨h.1.trans (hb.mono h.1.size), Nat.le_trans h.2.1 hb.size, fun i v e => (h.2.2.1 i v e).below hb, fun i v e => (h.2.2.2 i v e).below hb⟩
theorem LessB.step {w0 w w' : World} {vs us : Array Value} (h : LessB w0 vs us w) (hb : Below (w0.heap.size + 1 + 1) w w') : LessB w0 vs us w' := by
  have hc : ∀ {p : Addr} {v : Value}, p.block < w0.heap.size + 1 + 1 → Cel w p v → Cel w' p v := fun hp hcl => ⟨(hb.cell hp).trans hcl.1, (hb.frozen hp).trans hcl.2.1, Nat.lt_of_lt_of_le hcl.2.2 hb.size⟩
  exact ⟨h.1.trans (hb.mono (by omega)), Nat.le_trans h.2.1 hb.size, fun i v e => hc (by show w0.heap.size < _; omega) (h.2.2.1 i v e), fun i v e => hc (by show w0.heap.size + 1 < _; omega) (h.2.2.2 i v e)⟩
/-- numbers of the caller -/
def NumsV (w : World) (vs : List Value) : Prop := ∀ v, v ∈ vs → Num w v (mval w v) 30
theorem NumsV.snoc {w : World} {vs : List Value} {v : Value} {x : Nat} (h : NumsV w vs) (hv : Num w v x 30) : NumsV w (vs ++ [v]) := by
  intro u hu
  rcases List.mem_append.1 hu with h1 | h1
  · exact h u h1
  · simp at h1; subst h1; rw [mval_num hv]; exact hv
theorem NumsV.nums {T : TypeId} {w w' : World} {B n q : Nat} {A : Option Addr} {vs : List Value} (h : NumsV w vs) (ho : OwnV T B w' A n q vs) (hb : Below w.heap.size w w') : Nums w' A n q (vs.map (mval w)) (List.replicate n 30) := by
  have hvl : vs.length = n := by have := ho.1; omega
  refine ho.nums (by simp [hvl]) (by simp) ho.cap.1 fun i v hv => ?_
  have hi : i < vs.length := (List.getElem?_eq_some_iff.1 hv).1
  rw [nth_replicate (by omega)]
  have e : nth (vs.map (mval w)) i = mval w v := by simp [nth, hv]
  rw [e]
  exact (h v (List.mem_of_getElem? hv)).below hb
def set8 (b : Nat) (w : World) (u3 u4 v0 v1 v2 v3 v4 v5 : Value) : World :=
  ((((((((w.setCell ⟨b, 3, none⟩ u3).setCell ⟨b, 4, none⟩ u4).setCell ⟨b + 1, 0, none⟩ v0).setCell ⟨b + 1, 1, none⟩ v1).setCell ⟨b + 1, 2, none⟩ v2).setCell ⟨b + 1, 3, none⟩ v3).setCell ⟨b + 1, 4, none⟩ v4).setCell ⟨b + 1, 5, none⟩ v5)
theorem OwnV.set8 {T : TypeId} {B n c b : Nat} {w : World} {A : Option Addr} {vs : List Value} {u3 u4 v0 v1 v2 v3 v4 v5 : Value} (h : OwnV T B w A n c vs) (hb : b + 1 < B) : OwnV T B (set8 b w u3 u4 v0 v1 v2 v3 v4 v5) A n c vs :=
  ((((((((h.set_low (p := ⟨b, 3, none⟩) (by show b < B; omega) _).set_low (p := ⟨b, 4, none⟩) (by show b < B; omega) _).set_low (p := ⟨b + 1, 0, none⟩) hb _).set_low (p := ⟨b + 1, 1, none⟩) hb _).set_low (p := ⟨b + 1, 2, none⟩) hb _).set_low (p := ⟨b + 1, 3, none⟩) hb _).set_low (p := ⟨b + 1, 4, none⟩) hb _).set_low (p := ⟨b + 1, 5, none⟩) hb _)
theorem OwnV.mono {T : TypeId} {B B' n c : Nat} {w : World} {A : Option Addr} {vs : List Value} (h : OwnV T B w A n c vs) (hB : B' ≤ B) : OwnV T B' w A n c vs := by
  refine ⟨h.1, ?_⟩
  rcases h.2 with h2 | ⟨g, cap, cur, hv, hg, r⟩
  · exact .inl h2
  · exact .inr ⟨g, cap, cur, hv, by omega, r⟩
/-- what less answers: numbers of the caller's (world w0) -/
def LessP (T : TypeId) (w0 w : World) (a b k : Nat) (N : Int) (e : Ending) (w' : World) : Prop :=
  ∃ uA uB uK A n q vs A' m r us, e = .returned (.agg #[uA, uB, uK, .slice A n q, .slice A' m r, .int .i64 N]) ∧ (Num w0 uA a 30 ∧ Num w0 uB b 30 ∧ Num w0 uK k 30) ∧ (n ≤ 20 ∧ OwnV T w.heap.size w' A n q vs ∧ NumsV w0 vs) ∧ (m ≤ 20 ∧ OwnV T w.heap.size w' A' m r us ∧ NumsV w0 us) ∧ Below w.heap.size w w'
theorem less_fin {w0 w wr : World} {pA pB pK : Option Addr} {nA cA nB cB nK cK a b k n q m r B2 : Nat} {A A' : Option Addr} {vs us : List Value} {T : TypeId} {N : Int} {u3 u4 v0 v1 v2 v3 v4 v5 : Value}
    (h1 : Num w0 (.slice pA nA cA) a 30) (h2 : Num w0 (.slice pB nB cB) b 30) (h3 : Num w0 (.slice pK nK cK) k 30) (hb0 : Below w.heap.size w wr)
    (hn : n ≤ 20) (hv : NumsV w0 vs) (ho : OwnV T (w.heap.size + 1 + 1) wr A n q vs) (hm : m ≤ 20) (hu : NumsV w0 us) (ho' : OwnV T B2 wr A' m r us) (hB2 : w.heap.size + 1 < B2) :
    LessP T w0 w a b k N (.returned (.agg #[.slice pA nA cA, .slice pB nB cB, .slice pK nK cK, .slice A n q, .slice A' m r, .int .i64 N])) (set8 w.heap.size wr u3 u4 v0 v1 v2 v3 v4 v5) := by
  have hb : Below w.heap.size w (set8 w.heap.size wr u3 u4 v0 v1 v2 v3 v4 v5) := (((((((hb0.setCell (p := ⟨w.heap.size, 3, none⟩) (by simp) _).setCell (p := ⟨w.heap.size, 4, none⟩) (by simp) _).setCell (p := ⟨w.heap.size + 1, 0, none⟩) (by simp) _).setCell (p := ⟨w.heap.size + 1, 1, none⟩) (by simp) _).setCell (p := ⟨w.heap.size + 1, 2, none⟩) (by simp) _).setCell (p := ⟨w.heap.size + 1, 3, none⟩) (by simp) _).setCell (p := ⟨w.heap.size + 1, 4, none⟩) (by simp) _).setCell (p := ⟨w.heap.size + 1, 5, none⟩) (by simp) _
  exact ⟨_, _, _, _, _, _, _, _, _, _, _, rfl, ⟨h1, h2, h3⟩, ⟨hn, (ho.set8 (by omega)).mono (by omega), hv⟩, ⟨hm, (ho'.set8 hB2).mono (by omega), hu⟩, hb⟩
set_option maxHeartbeats 4000000 in
set_option maxRecDepth 100000 in
theorem less05_any {vA vB vK : Value} {A3 A4 : Option Addr} {n3 c3 n4 c4 a b k LA LB LK : Nat} {N : Int} {xs ys ls ms : List Nat} {w0 w : World} (hbz : Below w0.heap.size w0 w) (hA : Num w0 vA a LA) (hB : Num w0 vB b LB) (hK : Num w0 vK k LK) (h3 : Nums w0 A3 n3 c3 xs ls) (h4 : Nums w0 A4 n4 c4 ys ms) :
    Calls Tryz.prog 34 #[.agg #[vA, vB, vK, .slice A3 n3 c3, .slice A4 n4 c4, .int .i64 N]] w (LessP 58 w0 w (a % W ^ 30) (b % W ^ 30) (k % W ^ 30) N) := by
  have HBZ := Lib.hid hbz
  have HA := Lib.hid hA
  have HB := Lib.hid hB
  have HK := Lib.hid hK
  have HS3 := Lib.hid h3
  have HS4 := Lib.hid h4
  have HE := Lib.hid elNats5
  obtain ⟨pA, nA, cA, _, rfl, _⟩ := id hA
  obtain ⟨pB, nB, cB, _, rfl, _⟩ := id hB
  obtain ⟨pK, nK, cK, _, rfl, _⟩ := id hK
  clear hbz hA hB hK h3 h4
  go_enter Tryz.func34, Tryz.ntmps34
  go_wp2_with fail
  have e_f0 := ((Cel.box (i := 0) (v := .slice pA nA cA) (t := 67) (b := w.heap.size) w #[.slice pA nA cA, .slice pB nB cB, .slice pK nK cK, .slice A3 n3 c3, .slice A4 n4 c4, .int .i64 N] rfl (by simp)).below ((Below.refl _ _).alloc (Nat.le_refl _) (.cells #[.slice none 0 0, .slice none 0 0, .slice none 0 0, .slice none 0 0, .slice none 0 0, .int .i64 0] 67))).1
  have g_f0 := At.grow (p := _) ⟨((Cel.box (i := 0) (v := .slice pA nA cA) (t := 67) (b := w.heap.size) w #[.slice pA nA cA, .slice pB nB cB, .slice pK nK cK, .slice A3 n3 c3, .slice A4 n4 c4, .int .i64 N] rfl (by simp)).below ((Below.refl _ _).alloc (Nat.le_refl _) (.cells #[.slice none 0 0, .slice none 0 0, .slice none 0 0, .slice none 0 0, .slice none 0 0, .int .i64 0] 67))).1, ((Cel.box (i := 0) (v := .slice pA nA cA) (t := 67) (b := w.heap.size) w #[.slice pA nA cA, .slice pB nB cB, .slice pK nK cK, .slice A3 n3 c3, .slice A4 n4 c4, .int .i64 N] rfl (by simp)).below ((Below.refl _ _).alloc (Nat.le_refl _) (.cells #[.slice none 0 0, .slice none 0 0, .slice none 0 0, .slice none 0 0, .slice none 0 0, .int .i64 0] 67))).2.2⟩
  have e_f1 := ((Cel.box (i := 1) (v := .slice pB nB cB) (t := 67) (b := w.heap.size) w #[.slice pA nA cA, .slice pB nB cB, .slice pK nK cK, .slice A3 n3 c3, .slice A4 n4 c4, .int .i64 N] rfl (by simp)).below ((Below.refl _ _).alloc (Nat.le_refl _) (.cells #[.slice none 0 0, .slice none 0 0, .slice none 0 0, .slice none 0 0, .slice none 0 0, .int .i64 0] 67))).1
  have g_f1 := At.grow (p := _) ⟨((Cel.box (i := 1) (v := .slice pB nB cB) (t := 67) (b := w.heap.size) w #[.slice pA nA cA, .slice pB nB cB, .slice pK nK cK, .slice A3 n3 c3, .slice A4 n4 c4, .int .i64 N] rfl (by simp)).below ((Below.refl _ _).alloc (Nat.le_refl _) (.cells #[.slice none 0 0, .slice none 0 0, .slice none 0 0, .slice none 0 0, .slice none 0 0, .int .i64 0] 67))).1, ((Cel.box (i := 1) (v := .slice pB nB cB) (t := 67) (b := w.heap.size) w #[.slice pA nA cA, .slice pB nB cB, .slice pK nK cK, .slice A3 n3 c3, .slice A4 n4 c4, .int .i64 N] rfl (by simp)).below ((Below.refl _ _).alloc (Nat.le_refl _) (.cells #[.slice none 0 0, .slice none 0 0, .slice none 0 0, .slice none 0 0, .slice none 0 0, .int .i64 0] 67))).2.2⟩
  have e_f2 := ((Cel.box (i := 2) (v := .slice pK nK cK) (t := 67) (b := w.heap.size) w #[.slice pA nA cA, .slice pB nB cB, .slice pK nK cK, .slice A3 n3 c3, .slice A4 n4 c4, .int .i64 N] rfl (by simp)).below ((Below.refl _ _).alloc (Nat.le_refl _) (.cells #[.slice none 0 0, .slice none 0 0, .slice none 0 0, .slice none 0 0, .slice none 0 0, .int .i64 0] 67))).1
  have g_f2 := At.grow (p := _) ⟨((Cel.box (i := 2) (v := .slice pK nK cK) (t := 67) (b := w.heap.size) w #[.slice pA nA cA, .slice pB nB cB, .slice pK nK cK, .slice A3 n3 c3, .slice A4 n4 c4, .int .i64 N] rfl (by simp)).below ((Below.refl _ _).alloc (Nat.le_refl _) (.cells #[.slice none 0 0, .slice none 0 0, .slice none 0 0, .slice none 0 0, .slice none 0 0, .int .i64 0] 67))).1, ((Cel.box (i := 2) (v := .slice pK nK cK) (t := 67) (b := w.heap.size) w #[.slice pA nA cA, .slice pB nB cB, .slice pK nK cK, .slice A3 n3 c3, .slice A4 n4 c4, .int .i64 N] rfl (by simp)).below ((Below.refl _ _).alloc (Nat.le_refl _) (.cells #[.slice none 0 0, .slice none 0 0, .slice none 0 0, .slice none 0 0, .slice none 0 0, .int .i64 0] 67))).2.2⟩
  refine wp_region_stores [(0, 0), (0, 1), (0, 3), (0, 4), (0, 6), (0, 7), (1, 2), (0, 9), (1, 5), (1, 8), (2, 10), (0, 11), (2, 12), (0, 13), (2, 14)] (by kernel_rfl) (by kernel_rfl) ?_
  repeat (first | (refine sord_pas (by rfl) (fun K hK => ?_); go_simp; refine hK _ _ (fun w' hw' => (by first | (go_simp; done) | (go_simp; intro hh; cases hh))) ?_; clear hK K) | (refine sord_pasT (by rfl) (fun K hK => ?_); go_simp; refine hK _ _ (fun w' hw' => (by first | (go_simp; done) | (go_simp; intro hh; cases hh))) ?_; clear hK K))
  (refine sord_call (by rfl) (fun K hK => ?_); go_simp; refine hK _ _ ?_; clear hK K)
  refine (few05_any HA.out).mono ?_
  rintro e w' ⟨A1, n1, c1, rfl, hf1, rfl⟩
  refine ⟨_, rfl, Grow.refl _ _, ?_⟩
  (refine sord_norm (fun K hK => ?_); go_simp; refine hK _ ?_; clear hK K)
  repeat (first | (refine sord_pas (by rfl) (fun K hK => ?_); go_simp; refine hK _ _ (fun w' hw' => (by first | (go_simp; done) | (go_simp; intro hh; cases hh))) ?_; clear hK K) | (refine sord_pasT (by rfl) (fun K hK => ?_); go_simp; refine hK _ _ (fun w' hw' => (by first | (go_simp; done) | (go_simp; intro hh; cases hh))) ?_; clear hK K))
  (refine sord_call (by rfl) (fun K hK => ?_); go_simp; refine hK _ _ ?_; clear hK K)
  refine (few05_any HB.out).mono ?_
  rintro e w' ⟨A2, n2, c2, rfl, hf2, rfl⟩
  refine ⟨_, rfl, Grow.refl _ _, ?_⟩
  (refine sord_norm (fun K hK => ?_); go_simp; refine hK _ ?_; clear hK K)
  (refine sord_call (by rfl) (fun K hK => ?_); go_simp; refine hK _ _ ?_; clear hK K)
  refine (few05_any HK.out).mono ?_
  rintro e w' ⟨A5, n5, c5, rfl, hf5, rfl⟩
  refine ⟨_, rfl, Grow.refl _ _, ?_⟩
  (refine sord_norm (fun K hK => ?_); go_simp; refine hK _ ?_; clear hK K)
  clear g_f0 g_f1 g_f2 e_f0 e_f1 e_f2
  have HF1 := Lib.hid hf1
  have HF2 := Lib.hid hf2
  have HF5 := Lib.hid hf5
  have z0 := (((Cel.box (i := 0) (v := .slice pA nA cA) (t := 67) (b := w.heap.size) w #[.slice pA nA cA, .slice pB nB cB, .slice pK nK cK, .slice A3 n3 c3, .slice A4 n4 c4, .int .i64 N] rfl (by simp)).below ((Below.refl _ _).alloc (Nat.le_refl _) (.cells #[.slice none 0 0, .slice none 0 0, .slice none 0 0, .slice none 0 0, .slice none 0 0, .int .i64 0] 67))).below (Below.refl _ _).drew)
  have z1 := (((Cel.box (i := 1) (v := .slice pB nB cB) (t := 67) (b := w.heap.size) w #[.slice pA nA cA, .slice pB nB cB, .slice pK nK cK, .slice A3 n3 c3, .slice A4 n4 c4, .int .i64 N] rfl (by simp)).below ((Below.refl _ _).alloc (Nat.le_refl _) (.cells #[.slice none 0 0, .slice none 0 0, .slice none 0 0, .slice none 0 0, .slice none 0 0, .int .i64 0] 67))).below (Below.refl _ _).drew)
  have z2 := (((Cel.box (i := 2) (v := .slice pK nK cK) (t := 67) (b := w.heap.size) w #[.slice pA nA cA, .slice pB nB cB, .slice pK nK cK, .slice A3 n3 c3, .slice A4 n4 c4, .int .i64 N] rfl (by simp)).below ((Below.refl _ _).alloc (Nat.le_refl _) (.cells #[.slice none 0 0, .slice none 0 0, .slice none 0 0, .slice none 0 0, .slice none 0 0, .int .i64 0] 67))).below (Below.refl _ _).drew)
  obtain ⟨z0a, z0b, z0c⟩ := z0
  obtain ⟨z1a, z1b, z1c⟩ := z1
  obtain ⟨z2a, z2b, z2c⟩ := z2
  (refine sord_store (by rfl) (fun K hK => ?_); go_simp; refine hK _ _ ?_; clear hK K)
  repeat (first | (refine sord_pas (by rfl) (fun K hK => ?_); go_simp; refine hK _ _ (fun w' hw' => (by first | (go_simp; done) | (go_simp; intro hh; cases hh))) ?_; clear hK K) | (refine sord_pasT (by rfl) (fun K hK => ?_); go_simp; refine hK _ _ (fun w' hw' => (by first | (go_simp; done) | (go_simp; intro hh; cases hh))) ?_; clear hK K))
  (refine sord_store (by rfl) (fun K hK => ?_); go_simp; refine hK _ _ ?_; clear hK K)
  repeat (first | (refine sord_pas (by rfl) (fun K hK => ?_); go_simp; refine hK _ _ (fun w' hw' => (by first | (go_simp; done) | (go_simp; intro hh; cases hh))) ?_; clear hK K) | (refine sord_pasT (by rfl) (fun K hK => ?_); go_simp; refine hK _ _ (fun w' hw' => (by first | (go_simp; done) | (go_simp; intro hh; cases hh))) ?_; clear hK K))
  (refine sord_store (by rfl) (fun K hK => ?_); go_simp; refine hK _ _ ?_; clear hK K)
  refine sord_nil ?_
  clear z0a z0b z0c z1a z1b z1c z2a z2b z2c hf1 hf2 hf5
  go_wp2
  go_loopw [3, 5] (fun lv iv wr => ∃ (kk : Nat) (B : Option Addr) (q : Nat) (vs : List Value), Hid (OwnV 58 (w.heap.size + 1 + 1) wr B kk q vs ∧ NumsV w0 vs ∧ LessB w #[.slice A1 n1 c1, .slice A2 n2 c2, .slice A5 n5 c5, .slice A3 n3 c3, .slice A4 n4 c4, .int .i64 N] #[.slice none 0 0, .slice none 0 0, .slice none 0 0, .slice none 0 0, .slice none 0 0, .int .i64 0] wr) ∧ kk ≤ n3 ∧ kk ≤ 20 ∧ lv = .slice B kk q ∧ iv = .int .i64 (kk : Int)) (fun _ iv _ => n3 - (intOf iv).toNat)
  case atStart => exact ⟨0, none, 0, [], ⟨OwnV.nil, (fun v hv => by cases hv), LessB.start⟩, Nat.zero_le _, by omega, rfl, rfl⟩
  case round =>
    obtain ⟨kk, B, q, vs, hI, hk, hk2, rfl, rfl⟩ := hrel
    have HC := Lib.hid (hI.out.2.2.2.2.1 3 _ rfl)
    by_cases hlt : kk < n3
    · have i1 : (kk : Int) < (n3 : Int) := by omega
      by_cases hlt2 : kk < 20
      · have i2 : (kk : Int) < 20 := by omega
        have i0 : (0 : Int) ≤ (kk : Int) := by omega
        obtain ⟨b, off, v, ea, hb, hca, hv⟩ := HS3.out.at hlt
        subst ea
        have hca2 := ((bt HBZ.out hI.out.2.2.1).cell (p := ⟨b, off + kk, none⟩) hb).trans hca
        have HV := Lib.hid hv
        have HBW := Lib.hid hI.out.2.2
        obtain ⟨a1, a2, a3, _, rfl, _⟩ := id hv
        have hcc := HC.out.1
        clear hv hca
        go_wp2_with fail
        refine (few05_any HV.out).mono ?_
        rintro e w' ⟨Af, nf, cf, rfl, hf, rfl⟩
        have HF := Lib.hid hf
        clear hf
        go_wp2_with (at_builtin; (refine wpList_appV rfl (.tmp 30) (.tmp 37) rfl HE.out (B := (w.heap.size + 1 + 1)) rfl rfl (hI.out.1.below ((Below.refl _ _).alloc (Nat.le_refl _) _)) (At.box wr #[.slice Af nf cf] rfl).1 rfl (by omega) (by have := HBW.out.2.1; simp; omega) ?_); intro B2 e2 w2 ho2 hb2)
        have HN := Lib.hid (And.intro ho2 (And.intro (hI.out.2.1.snoc HF.out) (HBW.out.step (((Below.refl _ _).alloc HBW.out.2.1 _).trans hb2))))
        clear ho2 hb2
        go_roundw
        case rel => exact ⟨kk + 1, B2, e2, _, HN, by omega, by omega, rfl, by go_num⟩
        case measure => simp [intOf]; omega
      · have i2 : ¬ (kk : Int) < 20 := by omega
        have hcc := HC.out.1
        have HL1 := Lib.hid (And.intro hk2 hI.out)
        obtain ⟨wo, rfl⟩ : ∃ wo : World, wo = wr := ⟨_, rfl⟩
        clear hI hk hk2 hlt
        go_wp2
        clear hcc HC
        go_loopw [4, 6] (fun lv iv wr => ∃ (kk : Nat) (B : Option Addr) (q : Nat) (vs : List Value), Hid (OwnV 58 wo.heap.size wr B kk q vs ∧ NumsV w0 vs ∧ Below wo.heap.size wo wr) ∧ kk ≤ n4 ∧ kk ≤ 20 ∧ lv = .slice B kk q ∧ iv = .int .i64 (kk : Int)) (fun _ iv _ => n4 - (intOf iv).toNat)
        case atStart => exact ⟨0, none, 0, [], ⟨OwnV.nil, (fun v hv => by cases hv), Below.refl _ _⟩, Nat.zero_le _, by omega, rfl, rfl⟩
        case round =>
          obtain ⟨kk, B, q, vs, hI, hk, hk2, rfl, rfl⟩ := hrel
          have HC := Lib.hid ((HL1.out.2.2.2.below hI.out.2.2).2.2.1 4 _ rfl)
          by_cases hlt : kk < n4
          · have i1 : (kk : Int) < (n4 : Int) := by omega
            by_cases hlt2 : kk < 20
            · have i2 : (kk : Int) < 20 := by omega
              have i0 : (0 : Int) ≤ (kk : Int) := by omega
              obtain ⟨b, off, v, ea, hb, hca, hv⟩ := HS4.out.at hlt
              subst ea
              have hca2 := ((bt HBZ.out (HL1.out.2.2.2.below hI.out.2.2).1).cell (p := ⟨b, off + kk, none⟩) hb).trans hca
              have HV := Lib.hid hv
              have HBW := Lib.hid (HL1.out.2.2.2.below hI.out.2.2)
              obtain ⟨a1, a2, a3, _, rfl, _⟩ := id hv
              have hcc := HC.out.1
              clear hv hca
              go_wp2_with fail
              refine (few05_any HV.out).mono ?_
              rintro e w' ⟨Af, nf, cf, rfl, hf, rfl⟩
              have HF := Lib.hid hf
              clear hf
              go_wp2_with (at_builtin; (refine wpList_appV rfl (.tmp 50) (.tmp 57) rfl HE.out (B := wo.heap.size) rfl rfl (hI.out.1.below ((Below.refl _ _).alloc (Nat.le_refl _) _)) (At.box wr #[.slice Af nf cf] rfl).1 rfl (by omega) (by have := hI.out.2.2.size; simp; omega) ?_); intro B2 e2 w2 ho2 hb2)
              have HN := Lib.hid (And.intro ho2 (And.intro (hI.out.2.1.snoc HF.out) ((hI.out.2.2.alloc hI.out.2.2.size _).trans hb2)))
              clear ho2 hb2
              go_roundw
              case rel => exact ⟨kk + 1, B2, e2, _, HN, by omega, by omega, rfl, by go_num⟩
              case measure => simp [intOf]; omega
            · have i2 : ¬ (kk : Int) < 20 := by omega
              have hcc := HC.out.1
              have HLB := Lib.hid (HL1.out.2.2.2.below hI.out.2.2)
              have HO1 := Lib.hid (HL1.out.2.1.below hI.out.2.2)
              have HM := Lib.hid (And.intro hk2 hI.out)
              have HSZ := Lib.hid (And.intro HL1.out.2.2.2.2.1 hI.out.2.2.size)
              have HB1 := Lib.hid (HL1.out.2.2.2.1)
              have hI2 := Lib.hid hI.out.2.2
              obtain ⟨z0a, z0b, z0c⟩ := HLB.out.2.2.1 0 _ rfl
              obtain ⟨z1a, z1b, z1c⟩ := HLB.out.2.2.1 1 _ rfl
              obtain ⟨z2a, z2b, z2c⟩ := HLB.out.2.2.1 2 _ rfl
              obtain ⟨z3a, z3b, z3c⟩ := HLB.out.2.2.1 3 _ rfl
              obtain ⟨z4a, z4b, z4c⟩ := HLB.out.2.2.1 4 _ rfl
              obtain ⟨z5a, z5b, z5c⟩ := HLB.out.2.2.1 5 _ rfl
              obtain ⟨y0a, y0b, y0c⟩ := HLB.out.2.2.2 0 _ rfl
              obtain ⟨y1a, y1b, y1c⟩ := HLB.out.2.2.2 1 _ rfl
              obtain ⟨y2a, y2b, y2c⟩ := HLB.out.2.2.2 2 _ rfl
              obtain ⟨y3a, y3b, y3c⟩ := HLB.out.2.2.2 3 _ rfl
              obtain ⟨y4a, y4b, y4c⟩ := HLB.out.2.2.2 4 _ rfl
              obtain ⟨y5a, y5b, y5c⟩ := HLB.out.2.2.2 5 _ rfl
              clear z0c z1c z2c z3c z4c z5c y0c y1c y2c y3c y4c y5c hI hk hk2 hlt hcc HC
              go_wp2
              refine bodyPost_ret (v := .agg #[.slice A1 n1 c1, .slice A2 n2 c2, .slice A5 n5 c5, .slice _ _ _, .slice B kk q, .int .i64 N]) (by simp [results, Tryz.results34, go_sem, y0a, y1a, y2a, y3a, y4a, y5a]; exact ⟨rfl, rfl, rfl⟩) rfl ?_
              exact less_fin HF1.out HF2.out HF5.out (bt HB1.out hI2.out) HL1.out.1 HL1.out.2.2.1 HO1.out HM.out.1 HM.out.2.2.1 HM.out.2.1 (by have := HSZ.out.1; omega)
          · have i1 : ¬ (kk : Int) < (n4 : Int) := by omega
            have hcc := HC.out.1
            have HLB := Lib.hid (HL1.out.2.2.2.below hI.out.2.2)
            have HO1 := Lib.hid (HL1.out.2.1.below hI.out.2.2)
            have HM := Lib.hid (And.intro hk2 hI.out)
            have HSZ := Lib.hid (And.intro HL1.out.2.2.2.2.1 hI.out.2.2.size)
            have HB1 := Lib.hid (HL1.out.2.2.2.1)
            have hI2 := Lib.hid hI.out.2.2
            obtain ⟨z0a, z0b, z0c⟩ := HLB.out.2.2.1 0 _ rfl
            obtain ⟨z1a, z1b, z1c⟩ := HLB.out.2.2.1 1 _ rfl
            obtain ⟨z2a, z2b, z2c⟩ := HLB.out.2.2.1 2 _ rfl
            obtain ⟨z3a, z3b, z3c⟩ := HLB.out.2.2.1 3 _ rfl
            obtain ⟨z4a, z4b, z4c⟩ := HLB.out.2.2.1 4 _ rfl
            obtain ⟨z5a, z5b, z5c⟩ := HLB.out.2.2.1 5 _ rfl
            obtain ⟨y0a, y0b, y0c⟩ := HLB.out.2.2.2 0 _ rfl
            obtain ⟨y1a, y1b, y1c⟩ := HLB.out.2.2.2 1 _ rfl
            obtain ⟨y2a, y2b, y2c⟩ := HLB.out.2.2.2 2 _ rfl
            obtain ⟨y3a, y3b, y3c⟩ := HLB.out.2.2.2 3 _ rfl
            obtain ⟨y4a, y4b, y4c⟩ := HLB.out.2.2.2 4 _ rfl
            obtain ⟨y5a, y5b, y5c⟩ := HLB.out.2.2.2 5 _ rfl
            clear z0c z1c z2c z3c z4c z5c y0c y1c y2c y3c y4c y5c hI hk hk2 hlt hcc HC
            go_wp2
            refine bodyPost_ret (v := .agg #[.slice A1 n1 c1, .slice A2 n2 c2, .slice A5 n5 c5, .slice _ _ _, .slice B kk q, .int .i64 N]) (by simp [results, Tryz.results34, go_sem, y0a, y1a, y2a, y3a, y4a, y5a]; exact ⟨rfl, rfl, rfl⟩) rfl ?_
            exact less_fin HF1.out HF2.out HF5.out (bt HB1.out hI2.out) HL1.out.1 HL1.out.2.2.1 HO1.out HM.out.1 HM.out.2.2.1 HM.out.2.1 (by have := HSZ.out.1; omega)
    · have i1 : ¬ (kk : Int) < (n3 : Int) := by omega
      have hcc := HC.out.1
      have HL1 := Lib.hid (And.intro hk2 hI.out)
      obtain ⟨wo, rfl⟩ : ∃ wo : World, wo = wr := ⟨_, rfl⟩
      clear hI hk hk2 hlt
      go_wp2
      clear hcc HC
      go_loopw [4, 6] (fun lv iv wr => ∃ (kk : Nat) (B : Option Addr) (q : Nat) (vs : List Value), Hid (OwnV 58 wo.heap.size wr B kk q vs ∧ NumsV w0 vs ∧ Below wo.heap.size wo wr) ∧ kk ≤ n4 ∧ kk ≤ 20 ∧ lv = .slice B kk q ∧ iv = .int .i64 (kk : Int)) (fun _ iv _ => n4 - (intOf iv).toNat)
      case atStart => exact ⟨0, none, 0, [], ⟨OwnV.nil, (fun v hv => by cases hv), Below.refl _ _⟩, Nat.zero_le _, by omega, rfl, rfl⟩
      case round =>
        obtain ⟨kk, B, q, vs, hI, hk, hk2, rfl, rfl⟩ := hrel
        have HC := Lib.hid ((HL1.out.2.2.2.below hI.out.2.2).2.2.1 4 _ rfl)
        by_cases hlt : kk < n4
        · have i1 : (kk : Int) < (n4 : Int) := by omega
          by_cases hlt2 : kk < 20
          · have i2 : (kk : Int) < 20 := by omega
            have i0 : (0 : Int) ≤ (kk : Int) := by omega
            obtain ⟨b, off, v, ea, hb, hca, hv⟩ := HS4.out.at hlt
            subst ea
            have hca2 := ((bt HBZ.out (HL1.out.2.2.2.below hI.out.2.2).1).cell (p := ⟨b, off + kk, none⟩) hb).trans hca
            have HV := Lib.hid hv
            have HBW := Lib.hid (HL1.out.2.2.2.below hI.out.2.2)
            obtain ⟨a1, a2, a3, _, rfl, _⟩ := id hv
            have hcc := HC.out.1
            clear hv hca
            go_wp2_with fail
            refine (few05_any HV.out).mono ?_
            rintro e w' ⟨Af, nf, cf, rfl, hf, rfl⟩
            have HF := Lib.hid hf
            clear hf
            go_wp2_with (at_builtin; (refine wpList_appV rfl (.tmp 50) (.tmp 57) rfl HE.out (B := wo.heap.size) rfl rfl (hI.out.1.below ((Below.refl _ _).alloc (Nat.le_refl _) _)) (At.box wr #[.slice Af nf cf] rfl).1 rfl (by omega) (by have := hI.out.2.2.size; simp; omega) ?_); intro B2 e2 w2 ho2 hb2)
            have HN := Lib.hid (And.intro ho2 (And.intro (hI.out.2.1.snoc HF.out) ((hI.out.2.2.alloc hI.out.2.2.size _).trans hb2)))
            clear ho2 hb2
            go_roundw
            case rel => exact ⟨kk + 1, B2, e2, _, HN, by omega, by omega, rfl, by go_num⟩
            case measure => simp [intOf]; omega
          · have i2 : ¬ (kk : Int) < 20 := by omega
            have hcc := HC.out.1
            have HLB := Lib.hid (HL1.out.2.2.2.below hI.out.2.2)
            have HO1 := Lib.hid (HL1.out.2.1.below hI.out.2.2)
            have HM := Lib.hid (And.intro hk2 hI.out)
            have HSZ := Lib.hid (And.intro HL1.out.2.2.2.2.1 hI.out.2.2.size)
            have HB1 := Lib.hid (HL1.out.2.2.2.1)
            have hI2 := Lib.hid hI.out.2.2
            obtain ⟨z0a, z0b, z0c⟩ := HLB.out.2.2.1 0 _ rfl
            obtain ⟨z1a, z1b, z1c⟩ := HLB.out.2.2.1 1 _ rfl
            obtain ⟨z2a, z2b, z2c⟩ := HLB.out.2.2.1 2 _ rfl
            obtain ⟨z3a, z3b, z3c⟩ := HLB.out.2.2.1 3 _ rfl
            obtain ⟨z4a, z4b, z4c⟩ := HLB.out.2.2.1 4 _ rfl
            obtain ⟨z5a, z5b, z5c⟩ := HLB.out.2.2.1 5 _ rfl
            obtain ⟨y0a, y0b, y0c⟩ := HLB.out.2.2.2 0 _ rfl
            obtain ⟨y1a, y1b, y1c⟩ := HLB.out.2.2.2 1 _ rfl
            obtain ⟨y2a, y2b, y2c⟩ := HLB.out.2.2.2 2 _ rfl
            obtain ⟨y3a, y3b, y3c⟩ := HLB.out.2.2.2 3 _ rfl
            obtain ⟨y4a, y4b, y4c⟩ := HLB.out.2.2.2 4 _ rfl
            obtain ⟨y5a, y5b, y5c⟩ := HLB.out.2.2.2 5 _ rfl
            clear z0c z1c z2c z3c z4c z5c y0c y1c y2c y3c y4c y5c hI hk hk2 hlt hcc HC
            go_wp2
            refine bodyPost_ret (v := .agg #[.slice A1 n1 c1, .slice A2 n2 c2, .slice A5 n5 c5, .slice _ _ _, .slice B kk q, .int .i64 N]) (by simp [results, Tryz.results34, go_sem, y0a, y1a, y2a, y3a, y4a, y5a]; exact ⟨rfl, rfl, rfl⟩) rfl ?_
            exact less_fin HF1.out HF2.out HF5.out (bt HB1.out hI2.out) HL1.out.1 HL1.out.2.2.1 HO1.out HM.out.1 HM.out.2.2.1 HM.out.2.1 (by have := HSZ.out.1; omega)
        · have i1 : ¬ (kk : Int) < (n4 : Int) := by omega
          have hcc := HC.out.1
          have HLB := Lib.hid (HL1.out.2.2.2.below hI.out.2.2)
          have HO1 := Lib.hid (HL1.out.2.1.below hI.out.2.2)
          have HM := Lib.hid (And.intro hk2 hI.out)
          have HSZ := Lib.hid (And.intro HL1.out.2.2.2.2.1 hI.out.2.2.size)
          have HB1 := Lib.hid (HL1.out.2.2.2.1)
          have hI2 := Lib.hid hI.out.2.2
          obtain ⟨z0a, z0b, z0c⟩ := HLB.out.2.2.1 0 _ rfl
          obtain ⟨z1a, z1b, z1c⟩ := HLB.out.2.2.1 1 _ rfl
          obtain ⟨z2a, z2b, z2c⟩ := HLB.out.2.2.1 2 _ rfl
          obtain ⟨z3a, z3b, z3c⟩ := HLB.out.2.2.1 3 _ rfl
          obtain ⟨z4a, z4b, z4c⟩ := HLB.out.2.2.1 4 _ rfl
          obtain ⟨z5a, z5b, z5c⟩ := HLB.out.2.2.1 5 _ rfl
          obtain ⟨y0a, y0b, y0c⟩ := HLB.out.2.2.2 0 _ rfl
          obtain ⟨y1a, y1b, y1c⟩ := HLB.out.2.2.2 1 _ rfl
          obtain ⟨y2a, y2b, y2c⟩ := HLB.out.2.2.2 2 _ rfl
          obtain ⟨y3a, y3b, y3c⟩ := HLB.out.2.2.2 3 _ rfl
          obtain ⟨y4a, y4b, y4c⟩ := HLB.out.2.2.2 4 _ rfl
          obtain ⟨y5a, y5b, y5c⟩ := HLB.out.2.2.2 5 _ rfl
          clear z0c z1c z2c z3c z4c z5c y0c y1c y2c y3c y4c y5c hI hk hk2 hlt hcc HC
          go_wp2
          refine bodyPost_ret (v := .agg #[.slice A1 n1 c1, .slice A2 n2 c2, .slice A5 n5 c5, .slice _ _ _, .slice B kk q, .int .i64 N]) (by simp [results, Tryz.results34, go_sem, y0a, y1a, y2a, y3a, y4a, y5a]; exact ⟨rfl, rfl, rfl⟩) rfl ?_
          exact less_fin HF1.out HF2.out HF5.out (bt HB1.out hI2.out) HL1.out.1 HL1.out.2.2.1 HO1.out HM.out.1 HM.out.2.2.1 HM.out.2.1 (by have := HSZ.out.1; omega)
end Go.Proofs.YtphofjinncbaaaaGreat
namespace Go.Proofs.YtphofjinncbaaaaGreat
open Go.RowKit
set_option linter.unusedVariables false

theorem ext_12_18 {x y : Nat} {neg : Bool} (h : ExtOk 12 18 x y neg) : x = 2 ∧ y = 1 ∧ neg = true := by
  obtain ⟨h1, _, h3⟩ := h
  have e : Nat.gcd 12 18 = 6 := by decide
  rw [e] at h1 h3
  have h4 := h3 (by omega)
  rcases h1 with ⟨h5, h6, h7⟩ | ⟨h5, h6⟩
  · exact ⟨by omega, by omega, h5⟩
  · omega
set_option maxHeartbeats 4000000 in
set_option maxRecDepth 100000 in
theorem fixed05_any {w : World} : Calls Tryz.prog 33 #[] w (Keeps (.bool true) w) := by
  have SQ1 : Hid (nroot 2 (val W [17]) = 4) := by
    show _ = _
    exact nroot_uniq (by omega) (by simp [val]) (by simp [val])
  have SQ2 : Hid (val W [17] - nroot 2 (val W [17]) * nroot 2 (val W [17]) = 1) := by show _ = _; rw [SQ1.out]; simp [val]
  have SQ3 : Hid (Nat.gcd (val W [12]) (val W [18, 0]) = 6) := by show _ = _; simp [val]
  go_enter Tryz.func33, Tryz.ntmps33
  go_wp2_with fail
  refine (extended_any (((Num.lit (t := 81) _ [12] (by simp) (by simp [W_eq, All])).mono (L' := 1) (by simp)).below ((Below.refl _ _).alloc (Nat.le_refl _) _)) ((Num.lit (t := 81) _ [18] (by simp) (by simp [W_eq, All])).mono (L' := 1) (by simp)) (by omega) (by omega)).mono ?_
  rintro e wf ⟨x, y, neg, A1, n1, c1, A2, n2, c2, A3, n3, c3, hok, rfl, ⟨o1, o2, o3⟩, hbf, l1, l2, l3⟩
  obtain ⟨rfl, rfl, rfl⟩ := ext_12_18 hok
  clear hok
  rw [show Nat.gcd (val W [12]) (val W [18]) = 6 by simp [val]] at o1
  go_wp2_with fail
  refine wp_region_grow none [(true, 0), (false, 1), (false, 2), (true, 3), (true, 4), (true, 5), (false, 6), (false, 7), (true, 8), (true, 9), (true, 10), (true, 11), (false, 12), (false, 13), (true, 14), (true, 15)] (by kernel_rfl) (by kernel_rfl) ?_
  repeat (refine ord_pas (by rfl) (fun K hK => ?_); go_simp; refine hK _ _ (fun w' hw' => (by first | (go_simp; done) | (go_simp; intro hh; cases hh))) ?_; clear hK K)
  (refine ord_act (by rfl) (fun K hK => ?_); go_simp)
  refine hK _ _ ⟨Grow.of_below ((Below.refl _ _).alloc (Nat.le_refl _) _), ?_⟩
  clear hK K
  (refine ord_norm (fun K hK => ?_); go_simp; refine hK _ ?_; clear hK K)
  (refine ord_call (by rfl) (fun K hK => ?_); go_simp; refine hK _ _ ?_; clear hK K)
  refine (same5k_any ((((o1.rd.below ((Below.refl _ _).alloc (Nat.le_refl _) (.cells #[.bool false, .slice A2 n2 c2] 60))).below ((Below.refl _ _).alloc (Nat.le_refl _) (.cells #[.bool true, .slice A3 n3 c3] 60))).below (Below.refl _ _).drew).below ((Below.refl _ _).alloc (Nat.le_refl _) _)) (Rd.litn _ [6] (by simp) (by simp)) (dg_small (by omega) (by rw [W_eq]; omega)) (by omega)).mono ?_
  rintro e w1 ⟨rfl, hb1⟩
  refine ⟨_, rfl, Grow.of_below hb1, ?_⟩
  (refine ord_norm (fun K hK => ?_); go_simp; refine hK _ ?_; clear hK K)
  have em_x0 := (((((At.boxc (i := 0) (v := .bool false) (t := 60) (b := wf.heap.size) wf #[.bool false, .slice A2 n2 c2] rfl (by simp)).below ((Below.refl _ _).alloc (Nat.le_refl _) (.cells #[.bool true, .slice A3 n3 c3] 60))).below (Below.refl _ _).drew).below ((Below.refl _ _).alloc (Nat.le_refl _) _)).below hb1).1
  have gm_x0 := At.grow0 (((((At.boxc (i := 0) (v := .bool false) (t := 60) (b := wf.heap.size) wf #[.bool false, .slice A2 n2 c2] rfl (by simp)).below ((Below.refl _ _).alloc (Nat.le_refl _) (.cells #[.bool true, .slice A3 n3 c3] 60))).below (Below.refl _ _).drew).below ((Below.refl _ _).alloc (Nat.le_refl _) _)).below hb1)
  have em_x1 := (((((At.boxc (i := 1) (v := .slice A2 n2 c2) (t := 60) (b := wf.heap.size) wf #[.bool false, .slice A2 n2 c2] rfl (by simp)).below ((Below.refl _ _).alloc (Nat.le_refl _) (.cells #[.bool true, .slice A3 n3 c3] 60))).below (Below.refl _ _).drew).below ((Below.refl _ _).alloc (Nat.le_refl _) _)).below hb1).1
  have gm_x1 := At.grow0 (((((At.boxc (i := 1) (v := .slice A2 n2 c2) (t := 60) (b := wf.heap.size) wf #[.bool false, .slice A2 n2 c2] rfl (by simp)).below ((Below.refl _ _).alloc (Nat.le_refl _) (.cells #[.bool true, .slice A3 n3 c3] 60))).below (Below.refl _ _).drew).below ((Below.refl _ _).alloc (Nat.le_refl _) _)).below hb1)
  repeat (refine ord_pas (by rfl) (fun K hK => ?_); go_simp; refine hK _ _ (fun w' hw' => (by first | (go_simp; done) | (go_simp; intro hh; cases hh))) ?_; clear hK K)
  clear gm_x0 em_x0 gm_x1 em_x1
  (refine ord_call (by rfl) (fun K hK => ?_); go_simp; refine hK _ _ ?_; clear hK K)
  refine (Z5_nat (x := 2) rfl (by omega)).mono ?_
  rintro e w2 ⟨A_zz, n_zz, c_zz, s_zz, rfl, hs_zz, o_zz, hb2, l_zz⟩
  refine ⟨_, rfl, Grow.of_below hb2, ?_⟩
  (refine ord_norm (fun K hK => ?_); go_simp; refine hK _ ?_; clear hK K)
  (refine ord_call (by rfl) (fun K hK => ?_); go_simp; refine hK _ _ ?_; clear hK K)
  refine (sameInt_yes ((((((o2.rd.below ((Below.refl _ _).alloc (Nat.le_refl _) (.cells #[.bool false, .slice A2 n2 c2] 60))).below ((Below.refl _ _).alloc (Nat.le_refl _) (.cells #[.bool true, .slice A3 n3 c3] 60))).below (Below.refl _ _).drew).below ((Below.refl _ _).alloc (Nat.le_refl _) _)).below hb1).below hb2) o_zz.rd hs_zz.out.symm rfl (by omega)).mono ?_
  rintro e w3 ⟨rfl, hb3⟩
  refine ⟨_, rfl, Grow.of_below hb3, ?_⟩
  (refine ord_norm (fun K hK => ?_); go_simp; refine hK _ ?_; clear hK K)
  have em_y0 := ((((((At.boxc (i := 0) (v := .bool true) (t := 60) (b := wf.heap.size + 1) (World.alloc wf (.cells #[.bool false, .slice A2 n2 c2] 60)) #[.bool true, .slice A3 n3 c3] rfl (by simp)).below (Below.refl _ _).drew).below ((Below.refl _ _).alloc (Nat.le_refl _) _)).below hb1).below hb2).below hb3).1
  have gm_y0 := At.grow0 ((((((At.boxc (i := 0) (v := .bool true) (t := 60) (b := wf.heap.size + 1) (World.alloc wf (.cells #[.bool false, .slice A2 n2 c2] 60)) #[.bool true, .slice A3 n3 c3] rfl (by simp)).below (Below.refl _ _).drew).below ((Below.refl _ _).alloc (Nat.le_refl _) _)).below hb1).below hb2).below hb3)
  have em_y1 := ((((((At.boxc (i := 1) (v := .slice A3 n3 c3) (t := 60) (b := wf.heap.size + 1) (World.alloc wf (.cells #[.bool false, .slice A2 n2 c2] 60)) #[.bool true, .slice A3 n3 c3] rfl (by simp)).below (Below.refl _ _).drew).below ((Below.refl _ _).alloc (Nat.le_refl _) _)).below hb1).below hb2).below hb3).1
  have gm_y1 := At.grow0 ((((((At.boxc (i := 1) (v := .slice A3 n3 c3) (t := 60) (b := wf.heap.size + 1) (World.alloc wf (.cells #[.bool false, .slice A2 n2 c2] 60)) #[.bool true, .slice A3 n3 c3] rfl (by simp)).below (Below.refl _ _).drew).below ((Below.refl _ _).alloc (Nat.le_refl _) _)).below hb1).below hb2).below hb3)
  repeat (refine ord_pas (by rfl) (fun K hK => ?_); go_simp; refine hK _ _ (fun w' hw' => (by first | (go_simp; done) | (go_simp; intro hh; cases hh))) ?_; clear hK K)
  clear gm_y0 em_y0 gm_y1 em_y1
  (refine ord_call (by rfl) (fun K hK => ?_); go_simp; refine hK _ _ ?_; clear hK K)
  refine (Z5_neg (x := 1) rfl (by omega) (by omega)).mono ?_
  rintro e w4 ⟨A_ww, n_ww, c_ww, s_ww, rfl, hs_ww, o_ww, hb4, l_ww⟩
  refine ⟨_, rfl, Grow.of_below hb4, ?_⟩
  (refine ord_norm (fun K hK => ?_); go_simp; refine hK _ ?_; clear hK K)
  (refine ord_call (by rfl) (fun K hK => ?_); go_simp; refine hK _ _ ?_; clear hK K)
  refine (sameInt_yes ((((((((o3.rd.below ((Below.refl _ _).alloc (Nat.le_refl _) (.cells #[.bool false, .slice A2 n2 c2] 60))).below ((Below.refl _ _).alloc (Nat.le_refl _) (.cells #[.bool true, .slice A3 n3 c3] 60))).below (Below.refl _ _).drew).below ((Below.refl _ _).alloc (Nat.le_refl _) _)).below hb1).below hb2).below hb3).below hb4) o_ww.rd hs_ww.out.symm rfl (by omega)).mono ?_
  rintro e w5 ⟨rfl, hb5⟩
  refine ⟨_, rfl, Grow.of_below hb5, ?_⟩
  (refine ord_norm (fun K hK => ?_); go_simp; refine hK _ ?_; clear hK K)
  repeat (refine ord_pas (by rfl) (fun K hK => ?_); go_simp; refine hK _ _ (fun w' hw' => (by first | (go_simp; done) | (go_simp; intro hh; cases hh))) ?_; clear hK K)
  refine ord_nil ?_
  go_wp2_with fail
  refine (gsqrt_any ((Num.lit (t := 81) _ [17] (by simp) (by simp [W_eq, All])).mono (L' := 1) (by simp)) (by omega)).mono ?_
  rintro e w6 ⟨A_s, n_s, c_s, A_r, n_r, c_r, rfl, o_s, o_r, hb6, l_s, l_r⟩
  rw [SQ1.out] at o_s
  rw [SQ2.out] at o_r
  go_wp2_with fail
  refine (same5k_any (o_s.rd.below ((Below.refl _ _).alloc (Nat.le_refl _) _)) (Rd.litn _ [4] (by simp) (by simp)) (dg_small (by omega) (by rw [W_eq]; omega)) (by omega)).mono ?_
  rintro e w7 ⟨rfl, hb7⟩
  go_wp2_with fail
  refine (same5k_any (((o_r.rd.below ((Below.refl _ _).alloc (Nat.le_refl _) _)).below hb7).below ((Below.refl _ _).alloc (Nat.le_refl _) _)) (Rd.litn _ [1] (by simp) (by simp)) (dg_small (by omega) (by rw [W_eq]; omega)) (by omega)).mono ?_
  rintro e w8 ⟨rfl, hb8⟩
  go_wp2_with fail
  refine (gcd_any (((Num.lit (t := 81) _ [12] (by simp) (by simp [W_eq, All])).mono (L' := 1) (by simp)).below ((Below.refl _ _).alloc (Nat.le_refl _) _)) ((Num.lit (t := 81) _ [18, 0] (by simp) (by simp [W_eq, All])).mono (L' := 2) (by simp)) (by omega) (by omega)).mono ?_
  rintro e w9 ⟨A_g2, n_g2, c_g2, rfl, o_g2, hb9, l_g2⟩
  rw [SQ3.out] at o_g2
  go_wp2_with fail
  refine (same5k_any (o_g2.rd.below ((Below.refl _ _).alloc (Nat.le_refl _) _)) (Rd.litn _ [6] (by simp) (by simp)) (dg_small (by omega) (by rw [W_eq]; omega)) (by omega)).mono ?_
  rintro e w10 ⟨rfl, hb10⟩
  have dco : decide (Nat.gcd (val W [1]) 0 = 1) = true := by simp [val]
  go_wp2_with fail
  refine (coprime_any ((Num.lit (t := 81) _ [1] (by simp) (by simp [W_eq, All])).mono (L' := 1) (by simp)) Num.nil (by omega) (by omega)).mono ?_
  rintro e w11 ⟨rfl, hb11⟩
  go_wp2
  go_ret
  exact ⟨rfl, (bt (bt (bt (bt (bt (bt (bt (bt (bt (bt (bt (bt (bt (bt (bt (bt (bt (bt (bt (bt (bt (bt (bt (bt ((Below.refl _ _).alloc (Nat.le_refl _) _) ((Below.refl _ _).alloc (Nat.le_refl _) _)) hbf) ((Below.refl _ _).alloc (Nat.le_refl _) (.cells #[.bool false, .slice A2 n2 c2] 60))) ((Below.refl _ _).alloc (Nat.le_refl _) (.cells #[.bool true, .slice A3 n3 c3] 60))) (Below.refl _ _).drew) ((Below.refl _ _).alloc (Nat.le_refl _) _)) hb1) hb2) hb3) hb4) hb5) ((Below.refl _ _).alloc (Nat.le_refl _) _)) hb6) ((Below.refl _ _).alloc (Nat.le_refl _) _)) hb7) ((Below.refl _ _).alloc (Nat.le_refl _) _)) hb8) ((Below.refl _ _).alloc (Nat.le_refl _) _)) ((Below.refl _ _).alloc (Nat.le_refl _) _)) hb9) ((Below.refl _ _).alloc (Nat.le_refl _) _)) hb10) ((Below.refl _ _).alloc (Nat.le_refl _) _)) hb11)⟩
end Go.Proofs.YtphofjinncbaaaaGreat
