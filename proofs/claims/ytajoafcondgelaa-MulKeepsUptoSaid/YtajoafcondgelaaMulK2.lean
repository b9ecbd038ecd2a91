/-
  MulKeeps: mean, ask, mul.Row whose numbers lie apart.
-/
import Derived.Test.YtajoafcondgelaaMulK
import Derived.Test.YtajoafcondgelaaPowB
import Derived.Test.YtajoafcondgelaaRef3D
namespace Go.Proofs.Ytajoafcondgelaa
open Go.RowKit
set_option linter.unusedVariables false

theorem Nums.lit1 {T : TypeId} {w : World} {v : Value} {x L b : Nat} (hb : b = w.heap.size) (h : Num (w.alloc (.cells #[v] T)) v x L) : Nums (w.alloc (.cells #[v] T)) (some ⟨b, 0, none⟩) 1 1 [x] [L] := by
  subst hb
  refine ⟨⟨rfl, rfl, Nat.le_refl _⟩, fun _ => ⟨w.heap.size, 0, rfl, by simp, fun i hi => ?_⟩⟩
  obtain rfl : i = 0 := by omega
  exact ⟨v, (At.box (i := 0) w _ rfl).1, h⟩
theorem Nums.lit2 {T : TypeId} {w : World} {v u : Value} {x y L K b : Nat} (hb : b = w.heap.size) (h : Num (w.alloc (.cells #[v, u] T)) v x L) (h' : Num (w.alloc (.cells #[v, u] T)) u y K) : Nums (w.alloc (.cells #[v, u] T)) (some ⟨b, 0, none⟩) 2 2 [x, y] [L, K] := by
  subst hb
  refine ⟨⟨rfl, rfl, Nat.le_refl _⟩, fun _ => ⟨w.heap.size, 0, rfl, by simp, fun i hi => ?_⟩⟩
  match i, hi with
  | 0, _ => exact ⟨v, (At.box (i := 0) w _ rfl).1, h⟩
  | 1, _ => exact ⟨u, (At.box (i := 1) w _ rfl).1, h'⟩
/-- a row of the call's own -/
def RowV (T : TypeId) (B : Nat) (w : World) (A : Option Addr) (n c : Nat) (vs : List Value) : Prop := w.ownsRow B T 1 (.slice A n c) n vs
section
variable {T TT : TypeId} {B n c m c2 : Nat} {w w' : World} {A A2 : Option Addr} {vs us : List Value} {P : Program}
theorem RowV.below (h : RowV T B w A n c vs) (hb : Below w.heap.size w w') : RowV T B w' A n c vs := ownsRow_below h hb
theorem RowV.rd (h : RowV T B w A n c vs) : RdV w A n c vs := rdV_own h
theorem RowV.mono {B' : Nat} (h : RowV T B w A n c vs) (hB : B' ≤ B) : RowV T B' w A n c vs := by
  refine ⟨h.1, ?_⟩
  rcases h.2 with h3 | ⟨g, cap, cur, hv, hg, r⟩
  · exact .inl h3
  · exact .inr ⟨g, cap, cur, hv, by omega, r⟩
theorem RowV.lit {b : Nat} (w : World) (vs : List Value) (hb : b = w.heap.size) (hz : vs.length ≤ 1000) (hB : B ≤ w.heap.size) : RowV T B (w.alloc (.cells vs.toArray T)) (some ⟨b, 0, none⟩) vs.length vs.length vs := by
  subst hb
  have := World.ownsRow_lit (base := B) (e := T) (size := 1) w vs.toArray vs.length hB (by simp only [maxLen]; omega) (by simp)
  simpa [RowV] using this
/-- append of a row of lists -/
theorem wpList_appVs {ops : Array Oper} {rest : List Oper} {o : Oper} {a : Act} {Q : Exit → Act → World → Prop} (hgd : o.guard = none) (s x : Operand)
    (ho : o.op = .call { callee := .builtin .append, args := #[s, x], argTypes := #[TT, TT] }) (he : ElemS P TT T)
    (hs : a.eval s = .slice A n c) (hx : a.eval x = .slice A2 m c2) (hown : RowV T B w A n c vs) (hr : RdV w A2 m c2 us) (hv : ∀ u ∈ us, u.oneCell' = true) (hm : 0 < m) (hlen : n + m ≤ 1099511627776) (hB : B ≤ w.heap.size)
    (h : ∀ A' c' w', RowV T B w' A' (n + m) c' (vs ++ us) → Below B w w' → w.grownBy w' (Value.slice A n c).ownBlock → wpList P ops Q rest (a.put o.dst (.slice A' (n + m) c')) w') : wpList P ops Q (o :: rest) a w := by
  obtain ⟨hT, hinfo⟩ := he
  obtain ⟨i, hi, hz, hs1, hb⟩ := info_parts hinfo
  obtain ⟨b, off, e, _, hc⟩ := hr.2 hm
  subst e
  refine wpList_append_own_at w hgd s x TT ho B T i (.slice none 0 0) 1 24 hT hi hz hs1 hb rfl (by decide) _ n _ hs hown ⟨b, off, none⟩ m c2 us hx (by have := hr.1.1; omega) ?_ hv (by simp only [maxLen]; omega) (by omega) hB ?_
  · intro j u hj
    rw [addo]
    have hjl : j < us.length := (List.getElem?_eq_some_iff.1 hj).1
    rw [hr.1.1] at hjl
    rw [hc j hjl, hj]
  · intro v' w' h1 h2
    intros
    have hform : ∃ A' c', v' = .slice A' (n + m) c' := by
      rcases h1.2 with ⟨h3, h4⟩ | ⟨g, cap, cur, hv, _⟩
      · omega
      · exact ⟨_, _, hv⟩
    obtain ⟨A', c', rfl⟩ := hform
    exact h A' c' w' h1 ((Below.refl _ _).grown h2 hB (fun g hg' => (World.ownsRow.lt hown g hg').1)) h2
end
theorem Own.other' {k : IntKind} {t T : TypeId} {B B2 n c m d : Nat} {w w' : World} {A A2 : Option Addr} {xs : List Nat} {vs : List Value} (ho : Own k t B w A n c xs) (hr : RowV T B2 w A2 m d vs) (hne : t ≠ T) (hg : w.grownBy w' (Value.slice A2 m d).ownBlock) : Own k t B w' A n c xs := by
  refine World.ownsRow.kept ho hg ?_
  rcases ho.2 with ⟨h1, _⟩ | ⟨g, cap, cur, hv, _, hh, _⟩
  · left; rw [h1]; rfl
  · rcases hr.2 with ⟨h2, _⟩ | ⟨g2, cap2, cur2, hv2, _, hh2, _⟩
    · right; rw [hv, h2]; simp [Value.ownBlock]
    · right
      rw [hv, hv2]
      simp only [Value.ownBlock]
      intro e
      injection e with e
      subst e
      rw [hh] at hh2
      injection hh2 with hh2
      injection hh2 with _ e2 _
      exact hne e2
theorem Els.grown {t T : TypeId} {B B2 n c : Nat} {w w' : World} {A : Option Addr} {vs : List Value} {ss : List Sh} {F : Nat → List Nat} (h : Els t B2 w ss F) (hr : RowV T B w A n c vs) (hne : t ≠ T) (hg : w.grownBy w' (Value.slice A n c).ownBlock) : Els t B2 w' ss F := fun i s hi => (h i s hi).other' hr hne hg
theorem shv_one (ss : List Sh) : ∀ u ∈ ss.map shv, u.oneCell' = true := by
  intro u hu
  obtain ⟨s, _, rfl⟩ := List.mem_map.1 hu
  rfl
/-- the answers -/
def V12 (x y : Nat) : List Nat := [x * y, x * x, x, y * 3, x * y + x, x, x * y, x, x * y + y * x, x, y * y, x * y % W ^ 2]
theorem v12 {A1 A2 A3 A4 A5 A6 A7 A8 A9 A10 A11 A12 : Option Addr} {n1 n2 n3 n4 n5 n6 n7 n8 n9 n10 n11 n12 c1 c2 c3 c4 c5 c6 c7 c8 c9 c10 c11 c12 M : Nat} {t : TypeId} {B : Nat} {w : World} {x y : Nat}
    (h : AllO t B w [((A1, n1, c1), dg W (x * y)), ((A2, n2, c2), dg W (x * x)), ((A3, n3, c3), dg W x), ((A4, n4, c4), dg W (y * 3)), ((A5, n5, c5), dg W (x * y + x)), ((A6, n6, c6), dg W x), ((A7, n7, c7), dg W (x * y)), ((A8, n8, c8), dg W x), ((A9, n9, c9), dg W (x * y + y * x)), ((A10, n10, c10), dg W x), ((A11, n11, c11), dg W (y * y)), ((A12, n12, c12), dg W (x * y % W ^ 2))])
    (hm : n1 ≤ M ∧ n2 ≤ M ∧ n3 ≤ M ∧ n4 ≤ M ∧ n5 ≤ M ∧ n6 ≤ M ∧ n7 ≤ M ∧ n8 ≤ M ∧ n9 ≤ M ∧ n10 ≤ M ∧ n11 ≤ M ∧ n12 ≤ M) :
    ∃ F, Els t B w [(A1, n1, c1), (A2, n2, c2), (A3, n3, c3), (A4, n4, c4), (A5, n5, c5), (A6, n6, c6), (A7, n7, c7), (A8, n8, c8), (A9, n9, c9), (A10, n10, c10), (A11, n11, c11), (A12, n12, c12)] F ∧
      ∀ (i : Nat) (s : Sh), [(A1, n1, c1), (A2, n2, c2), (A3, n3, c3), (A4, n4, c4), (A5, n5, c5), (A6, n6, c6), (A7, n7, c7), (A8, n8, c8), (A9, n9, c9), (A10, n10, c10), (A11, n11, c11), (A12, n12, c12)][i]? = some s → F i = dg W (nth (V12 x y) i) ∧ s.2.1 ≤ M := by
  refine ⟨_, h.els, fun i s hi => ?_⟩
  obtain ⟨m1, m2, m3, m4, m5, m6, m7, m8, m9, m10, m11, m12⟩ := hm
  have hi2 : i < 12 := by have := (List.getElem?_eq_some_iff.1 hi).1; simpa using this
  match i, hi2 with
  | 0, _ => simp at hi; subst hi; exact ⟨rfl, m1⟩
  | 1, _ => simp at hi; subst hi; exact ⟨rfl, m2⟩
  | 2, _ => simp at hi; subst hi; exact ⟨rfl, m3⟩
  | 3, _ => simp at hi; subst hi; exact ⟨rfl, m4⟩
  | 4, _ => simp at hi; subst hi; exact ⟨rfl, m5⟩
  | 5, _ => simp at hi; subst hi; exact ⟨rfl, m6⟩
  | 6, _ => simp at hi; subst hi; exact ⟨rfl, m7⟩
  | 7, _ => simp at hi; subst hi; exact ⟨rfl, m8⟩
  | 8, _ => simp at hi; subst hi; exact ⟨rfl, m9⟩
  | 9, _ => simp at hi; subst hi; exact ⟨rfl, m10⟩
  | 10, _ => simp at hi; subst hi; exact ⟨rfl, m11⟩
  | 11, _ => simp at hi; subst hi; exact ⟨rfl, m12⟩
set_option maxHeartbeats 4000000 in
set_option maxRecDepth 100000 in
theorem ask_any {v u : Value} {x y L K : Nat} {w : World} (h : Num w v x L) (h' : Num w u y K) (hL : L ≤ 1048576) (hK : K ≤ 1048576) :
    Calls Try.prog 7 #[v, u] w (GLs w (V12 x y) 8388608) := by
  have H := Lib.hid h
  have H' := Lib.hid h'
  have HE := Lib.hid elNats
  obtain ⟨vA, vn, vc, _, rfl, _⟩ := id h
  obtain ⟨uA, un, uc, _, rfl, _⟩ := id h'
  clear h h'
  go_enter Try.func7, Try.ntmps7
  go_wp2_with fail
  refine (mul_any H.out H'.out (by omega) (by omega)).mono ?_
  rintro e w1 ⟨A_p1, n_p1, c_p1, rfl, o_p1, hb1, l_p1⟩
  have L_p1 := Lib.hid o_p1.lies
  go_wp2_with fail
  refine (square_any (H.out.below hb1) (by omega)).mono ?_
  rintro e w2 ⟨A_p2, n_p2, c_p2, rfl, o_p2, hb2, l_p2⟩
  have L_p2 := Lib.hid o_p2.lies
  go_wp2_with fail
  refine (times_any ((H.out.below hb1).below hb2) (y := 1) (by rfl) (by decide) (by omega)).mono ?_
  rintro e w3 ⟨A_p3, n_p3, c_p3, rfl, o_p3, hb3, l_p3⟩
  rw [Nat.mul_one] at o_p3
  have L_p3 := Lib.hid o_p3.lies
  go_wp2_with fail
  refine (times_any (((H'.out.below hb1).below hb2).below hb3) (y := 3) (by rfl) (by decide) (by omega)).mono ?_
  rintro e w4 ⟨A_p4, n_p4, c_p4, rfl, o_p4, hb4, l_p4⟩
  have L_p4 := Lib.hid o_p4.lies
  go_wp2_with fail
  refine (mulAdd_any ((((H.out.below hb1).below hb2).below hb3).below hb4) ((((H'.out.below hb1).below hb2).below hb3).below hb4) ((((H.out.below hb1).below hb2).below hb3).below hb4) (by omega) (by omega) (by omega)).mono ?_
  rintro e w5 ⟨A_p5, n_p5, c_p5, rfl, o_p5, hb5, l_p5⟩
  have L_p5 := Lib.hid o_p5.lies
  go_wp2_with fail
  refine (mulAdd_any Num.nil (((((H'.out.below hb1).below hb2).below hb3).below hb4).below hb5) (((((H.out.below hb1).below hb2).below hb3).below hb4).below hb5) (by omega) (by omega) (by omega)).mono ?_
  rintro e w6 ⟨A_p6, n_p6, c_p6, rfl, o_p6, hb6, l_p6⟩
  rw [Nat.zero_mul, Nat.zero_add] at o_p6
  have L_p6 := Lib.hid o_p6.lies
  go_wp2_with fail
  refine (productL_any (Nums.lit2 (T := 23) rfl (((((((H.out.below hb1).below hb2).below hb3).below hb4).below hb5).below hb6).below (belowA _ _)) (((((((H'.out.below hb1).below hb2).below hb3).below hb4).below hb5).below hb6).below (belowA _ _))) (by omega) (by simp [lsum]; omega)).mono ?_
  rintro e w7 ⟨A_p7, n_p7, c_p7, rfl, o_p7, hb7, l_p7⟩
  rw [show lprod [x, y] = x * y by simp [lprod]] at o_p7
  rw [show lsum [L, K] + 1 = L + K + 1 by simp [lsum]] at l_p7
  have L_p7 := Lib.hid o_p7.lies
  go_wp2_with fail
  refine (productL_any (Nums.lit1 (T := 23) rfl (((((((((H.out.below hb1).below hb2).below hb3).below hb4).below hb5).below hb6).below (belowA _ _)).below hb7).below (belowA _ _))) (by omega) (by simp [lsum]; omega)).mono ?_
  rintro e w8 ⟨A_p8, n_p8, c_p8, rfl, o_p8, hb8, l_p8⟩
  rw [show lprod [x] = x by simp [lprod]] at o_p8
  rw [show lsum [L] + 1 = L + 1 by simp [lsum]] at l_p8
  have L_p8 := Lib.hid o_p8.lies
  have HB8 := Lib.hid (bt (bt (bt (bt (bt (bt (bt (bt (bt hb1 hb2) hb3) hb4) hb5) hb6) (belowA _ _)) hb7) (belowA _ _)) hb8)
  go_wp2_with fail
  refine (dot_any ((Nums.lit2 (T := 23) (w := (World.alloc w8 (.cells #[.slice A_p1 n_p1 c_p1, .slice A_p2 n_p2 c_p2, .slice A_p3 n_p3 c_p3, .slice A_p4 n_p4 c_p4, .slice A_p5 n_p5 c_p5, .slice A_p6 n_p6 c_p6, .slice A_p7 n_p7 c_p7, .slice A_p8 n_p8 c_p8] 23))) (by simp) ((((((((((((H.out.below hb1).below hb2).below hb3).below hb4).below hb5).below hb6).below (belowA _ _)).below hb7).below (belowA _ _)).below hb8).below ((Below.refl _ _).alloc (Nat.le_refl _) (.cells #[.slice A_p1 n_p1 c_p1, .slice A_p2 n_p2 c_p2, .slice A_p3 n_p3 c_p3, .slice A_p4 n_p4 c_p4, .slice A_p5 n_p5 c_p5, .slice A_p6 n_p6 c_p6, .slice A_p7 n_p7 c_p7, .slice A_p8 n_p8 c_p8] 23))).below ((Below.refl _ _).alloc (Nat.le_refl _) (.cells #[.slice vA vn vc, .slice uA un uc] 23))) ((((((((((((H'.out.below hb1).below hb2).below hb3).below hb4).below hb5).below hb6).below (belowA _ _)).below hb7).below (belowA _ _)).below hb8).below ((Below.refl _ _).alloc (Nat.le_refl _) (.cells #[.slice A_p1 n_p1 c_p1, .slice A_p2 n_p2 c_p2, .slice A_p3 n_p3 c_p3, .slice A_p4 n_p4 c_p4, .slice A_p5 n_p5 c_p5, .slice A_p6 n_p6 c_p6, .slice A_p7 n_p7 c_p7, .slice A_p8 n_p8 c_p8] 23))).below ((Below.refl _ _).alloc (Nat.le_refl _) (.cells #[.slice vA vn vc, .slice uA un uc] 23)))).below ((Below.refl _ _).alloc (Nat.le_refl _) (.cells #[.slice uA un uc, .slice vA vn vc] 23))) (Nums.lit2 (T := 23) (w := (World.alloc (World.alloc w8 (.cells #[.slice A_p1 n_p1 c_p1, .slice A_p2 n_p2 c_p2, .slice A_p3 n_p3 c_p3, .slice A_p4 n_p4 c_p4, .slice A_p5 n_p5 c_p5, .slice A_p6 n_p6 c_p6, .slice A_p7 n_p7 c_p7, .slice A_p8 n_p8 c_p8] 23)) (.cells #[.slice vA vn vc, .slice uA un uc] 23))) (by simp) (((((((((((((H'.out.below hb1).below hb2).below hb3).below hb4).below hb5).below hb6).below (belowA _ _)).below hb7).below (belowA _ _)).below hb8).below ((Below.refl _ _).alloc (Nat.le_refl _) (.cells #[.slice A_p1 n_p1 c_p1, .slice A_p2 n_p2 c_p2, .slice A_p3 n_p3 c_p3, .slice A_p4 n_p4 c_p4, .slice A_p5 n_p5 c_p5, .slice A_p6 n_p6 c_p6, .slice A_p7 n_p7 c_p7, .slice A_p8 n_p8 c_p8] 23))).below ((Below.refl _ _).alloc (Nat.le_refl _) (.cells #[.slice vA vn vc, .slice uA un uc] 23))).below ((Below.refl _ _).alloc (Nat.le_refl _) (.cells #[.slice uA un uc, .slice vA vn vc] 23))) (((((((((((((H.out.below hb1).below hb2).below hb3).below hb4).below hb5).below hb6).below (belowA _ _)).below hb7).below (belowA _ _)).below hb8).below ((Below.refl _ _).alloc (Nat.le_refl _) (.cells #[.slice A_p1 n_p1 c_p1, .slice A_p2 n_p2 c_p2, .slice A_p3 n_p3 c_p3, .slice A_p4 n_p4 c_p4, .slice A_p5 n_p5 c_p5, .slice A_p6 n_p6 c_p6, .slice A_p7 n_p7 c_p7, .slice A_p8 n_p8 c_p8] 23))).below ((Below.refl _ _).alloc (Nat.le_refl _) (.cells #[.slice vA vn vc, .slice uA un uc] 23))).below ((Below.refl _ _).alloc (Nat.le_refl _) (.cells #[.slice uA un uc, .slice vA vn vc] 23)))) (by omega) (by simp [lsum]; omega) (by simp [lsum]; omega)).mono ?_
  rintro e w9 ⟨A_p9, n_p9, c_p9, rfl, o_p9, hb9, l_p9⟩
  rw [show ldot [x, y] [y, x] = x * y + y * x by simp [ldot]] at o_p9
  rw [show lsum [L, K] + lsum [K, L] + 2 = L + K + (K + L) + 2 by simp [lsum]] at l_p9
  have L_p9 := Lib.hid o_p9.lies
  go_wp2_with fail
  refine (pow_any ((((((((((((((H.out.below hb1).below hb2).below hb3).below hb4).below hb5).below hb6).below (belowA _ _)).below hb7).below (belowA _ _)).below hb8).below ((Below.refl _ _).alloc (Nat.le_refl _) (.cells #[.slice A_p1 n_p1 c_p1, .slice A_p2 n_p2 c_p2, .slice A_p3 n_p3 c_p3, .slice A_p4 n_p4 c_p4, .slice A_p5 n_p5 c_p5, .slice A_p6 n_p6 c_p6, .slice A_p7 n_p7 c_p7, .slice A_p8 n_p8 c_p8] 23))).below ((Below.refl _ _).alloc (Nat.le_refl _) (.cells #[.slice vA vn vc, .slice uA un uc] 23))).below ((Below.refl _ _).alloc (Nat.le_refl _) (.cells #[.slice uA un uc, .slice vA vn vc] 23))).below hb9) (N := 1) (by rfl) (by omega) (by omega) (by omega)).mono ?_
  rintro e w10 ⟨A_p10, n_p10, c_p10, rfl, o_p10, hb10, l_p10⟩
  rw [Nat.pow_one] at o_p10
  have L_p10 := Lib.hid o_p10.lies
  go_wp2_with fail
  refine (pow_any (((((((((((((((H'.out.below hb1).below hb2).below hb3).below hb4).below hb5).below hb6).below (belowA _ _)).below hb7).below (belowA _ _)).below hb8).below ((Below.refl _ _).alloc (Nat.le_refl _) (.cells #[.slice A_p1 n_p1 c_p1, .slice A_p2 n_p2 c_p2, .slice A_p3 n_p3 c_p3, .slice A_p4 n_p4 c_p4, .slice A_p5 n_p5 c_p5, .slice A_p6 n_p6 c_p6, .slice A_p7 n_p7 c_p7, .slice A_p8 n_p8 c_p8] 23))).below ((Below.refl _ _).alloc (Nat.le_refl _) (.cells #[.slice vA vn vc, .slice uA un uc] 23))).below ((Below.refl _ _).alloc (Nat.le_refl _) (.cells #[.slice uA un uc, .slice vA vn vc] 23))).below hb9).below hb10) (N := 2) (by rfl) (by omega) (by omega) (by omega)).mono ?_
  rintro e w11 ⟨A_p11, n_p11, c_p11, rfl, o_p11, hb11, l_p11⟩
  rw [Nat.pow_two] at o_p11
  have L_p11 := Lib.hid o_p11.lies
  go_wp2_with fail
  refine (low_any ((((((((((((((((H.out.below hb1).below hb2).below hb3).below hb4).below hb5).below hb6).below (belowA _ _)).below hb7).below (belowA _ _)).below hb8).below ((Below.refl _ _).alloc (Nat.le_refl _) (.cells #[.slice A_p1 n_p1 c_p1, .slice A_p2 n_p2 c_p2, .slice A_p3 n_p3 c_p3, .slice A_p4 n_p4 c_p4, .slice A_p5 n_p5 c_p5, .slice A_p6 n_p6 c_p6, .slice A_p7 n_p7 c_p7, .slice A_p8 n_p8 c_p8] 23))).below ((Below.refl _ _).alloc (Nat.le_refl _) (.cells #[.slice vA vn vc, .slice uA un uc] 23))).below ((Below.refl _ _).alloc (Nat.le_refl _) (.cells #[.slice uA un uc, .slice vA vn vc] 23))).below hb9).below hb10).below hb11) ((((((((((((((((H'.out.below hb1).below hb2).below hb3).below hb4).below hb5).below hb6).below (belowA _ _)).below hb7).below (belowA _ _)).below hb8).below ((Below.refl _ _).alloc (Nat.le_refl _) (.cells #[.slice A_p1 n_p1 c_p1, .slice A_p2 n_p2 c_p2, .slice A_p3 n_p3 c_p3, .slice A_p4 n_p4 c_p4, .slice A_p5 n_p5 c_p5, .slice A_p6 n_p6 c_p6, .slice A_p7 n_p7 c_p7, .slice A_p8 n_p8 c_p8] 23))).below ((Below.refl _ _).alloc (Nat.le_refl _) (.cells #[.slice vA vn vc, .slice uA un uc] 23))).below ((Below.refl _ _).alloc (Nat.le_refl _) (.cells #[.slice uA un uc, .slice vA vn vc] 23))).below hb9).below hb10).below hb11) (n := 2) (by rfl) (by omega) (by omega) (by omega)).mono ?_
  rintro e w12 ⟨A_p12, n_p12, c_p12, rfl, o_p12, hb12, l_p12⟩
  have L_p12 := Lib.hid o_p12.lies
  have HR8 := Lib.hid (((((((RowV.lit (T := 23) (B := w.heap.size) w8 [.slice A_p1 n_p1 c_p1, .slice A_p2 n_p2 c_p2, .slice A_p3 n_p3 c_p3, .slice A_p4 n_p4 c_p4, .slice A_p5 n_p5 c_p5, .slice A_p6 n_p6 c_p6, .slice A_p7 n_p7 c_p7, .slice A_p8 n_p8 c_p8] rfl (by simp) HB8.out.size).below ((Below.refl _ _).alloc (Nat.le_refl _) (.cells #[.slice vA vn vc, .slice uA un uc] 23))).below ((Below.refl _ _).alloc (Nat.le_refl _) (.cells #[.slice uA un uc, .slice vA vn vc] 23))).below hb9).below hb10).below hb11).below hb12)
  have HO : Hid (AllO 30 w.heap.size w12 [((A_p1, n_p1, c_p1), dg W (x * y)), ((A_p2, n_p2, c_p2), dg W (x * x)), ((A_p3, n_p3, c_p3), dg W x), ((A_p4, n_p4, c_p4), dg W (y * 3)), ((A_p5, n_p5, c_p5), dg W (x * y + x)), ((A_p6, n_p6, c_p6), dg W x), ((A_p7, n_p7, c_p7), dg W (x * y)), ((A_p8, n_p8, c_p8), dg W x), ((A_p9, n_p9, c_p9), dg W (x * y + y * x)), ((A_p10, n_p10, c_p10), dg W x), ((A_p11, n_p11, c_p11), dg W (y * y)), ((A_p12, n_p12, c_p12), dg W (x * y % W ^ 2))]) := ⟨((((((((((((((((o_p1.below hb2).below hb3).below hb4).below hb5).below hb6).below (belowA _ _)).below hb7).below (belowA _ _)).below hb8).below ((Below.refl _ _).alloc (Nat.le_refl _) (.cells #[.slice A_p1 n_p1 c_p1, .slice A_p2 n_p2 c_p2, .slice A_p3 n_p3 c_p3, .slice A_p4 n_p4 c_p4, .slice A_p5 n_p5 c_p5, .slice A_p6 n_p6 c_p6, .slice A_p7 n_p7 c_p7, .slice A_p8 n_p8 c_p8] 23))).below ((Below.refl _ _).alloc (Nat.le_refl _) (.cells #[.slice vA vn vc, .slice uA un uc] 23))).below ((Below.refl _ _).alloc (Nat.le_refl _) (.cells #[.slice uA un uc, .slice vA vn vc] 23))).below hb9).below hb10).below hb11).below hb12), ((((((((((((((((o_p2.mono hb1.size).below hb3).below hb4).below hb5).below hb6).below (belowA _ _)).below hb7).below (belowA _ _)).below hb8).below ((Below.refl _ _).alloc (Nat.le_refl _) (.cells #[.slice A_p1 n_p1 c_p1, .slice A_p2 n_p2 c_p2, .slice A_p3 n_p3 c_p3, .slice A_p4 n_p4 c_p4, .slice A_p5 n_p5 c_p5, .slice A_p6 n_p6 c_p6, .slice A_p7 n_p7 c_p7, .slice A_p8 n_p8 c_p8] 23))).below ((Below.refl _ _).alloc (Nat.le_refl _) (.cells #[.slice vA vn vc, .slice uA un uc] 23))).below ((Below.refl _ _).alloc (Nat.le_refl _) (.cells #[.slice uA un uc, .slice vA vn vc] 23))).below hb9).below hb10).below hb11).below hb12), (((((((((((((((o_p3.mono (bt hb1 hb2).size).below hb4).below hb5).below hb6).below (belowA _ _)).below hb7).below (belowA _ _)).below hb8).below ((Below.refl _ _).alloc (Nat.le_refl _) (.cells #[.slice A_p1 n_p1 c_p1, .slice A_p2 n_p2 c_p2, .slice A_p3 n_p3 c_p3, .slice A_p4 n_p4 c_p4, .slice A_p5 n_p5 c_p5, .slice A_p6 n_p6 c_p6, .slice A_p7 n_p7 c_p7, .slice A_p8 n_p8 c_p8] 23))).below ((Below.refl _ _).alloc (Nat.le_refl _) (.cells #[.slice vA vn vc, .slice uA un uc] 23))).below ((Below.refl _ _).alloc (Nat.le_refl _) (.cells #[.slice uA un uc, .slice vA vn vc] 23))).below hb9).below hb10).below hb11).below hb12), ((((((((((((((o_p4.mono (bt (bt hb1 hb2) hb3).size).below hb5).below hb6).below (belowA _ _)).below hb7).below (belowA _ _)).below hb8).below ((Below.refl _ _).alloc (Nat.le_refl _) (.cells #[.slice A_p1 n_p1 c_p1, .slice A_p2 n_p2 c_p2, .slice A_p3 n_p3 c_p3, .slice A_p4 n_p4 c_p4, .slice A_p5 n_p5 c_p5, .slice A_p6 n_p6 c_p6, .slice A_p7 n_p7 c_p7, .slice A_p8 n_p8 c_p8] 23))).below ((Below.refl _ _).alloc (Nat.le_refl _) (.cells #[.slice vA vn vc, .slice uA un uc] 23))).below ((Below.refl _ _).alloc (Nat.le_refl _) (.cells #[.slice uA un uc, .slice vA vn vc] 23))).below hb9).below hb10).below hb11).below hb12), (((((((((((((o_p5.mono (bt (bt (bt hb1 hb2) hb3) hb4).size).below hb6).below (belowA _ _)).below hb7).below (belowA _ _)).below hb8).below ((Below.refl _ _).alloc (Nat.le_refl _) (.cells #[.slice A_p1 n_p1 c_p1, .slice A_p2 n_p2 c_p2, .slice A_p3 n_p3 c_p3, .slice A_p4 n_p4 c_p4, .slice A_p5 n_p5 c_p5, .slice A_p6 n_p6 c_p6, .slice A_p7 n_p7 c_p7, .slice A_p8 n_p8 c_p8] 23))).below ((Below.refl _ _).alloc (Nat.le_refl _) (.cells #[.slice vA vn vc, .slice uA un uc] 23))).below ((Below.refl _ _).alloc (Nat.le_refl _) (.cells #[.slice uA un uc, .slice vA vn vc] 23))).below hb9).below hb10).below hb11).below hb12), ((((((((((((o_p6.mono (bt (bt (bt (bt hb1 hb2) hb3) hb4) hb5).size).below (belowA _ _)).below hb7).below (belowA _ _)).below hb8).below ((Below.refl _ _).alloc (Nat.le_refl _) (.cells #[.slice A_p1 n_p1 c_p1, .slice A_p2 n_p2 c_p2, .slice A_p3 n_p3 c_p3, .slice A_p4 n_p4 c_p4, .slice A_p5 n_p5 c_p5, .slice A_p6 n_p6 c_p6, .slice A_p7 n_p7 c_p7, .slice A_p8 n_p8 c_p8] 23))).below ((Below.refl _ _).alloc (Nat.le_refl _) (.cells #[.slice vA vn vc, .slice uA un uc] 23))).below ((Below.refl _ _).alloc (Nat.le_refl _) (.cells #[.slice uA un uc, .slice vA vn vc] 23))).below hb9).below hb10).below hb11).below hb12), ((((((((((o_p7.mono (bt (bt (bt (bt (bt (bt hb1 hb2) hb3) hb4) hb5) hb6) (belowA _ _)).size).below (belowA _ _)).below hb8).below ((Below.refl _ _).alloc (Nat.le_refl _) (.cells #[.slice A_p1 n_p1 c_p1, .slice A_p2 n_p2 c_p2, .slice A_p3 n_p3 c_p3, .slice A_p4 n_p4 c_p4, .slice A_p5 n_p5 c_p5, .slice A_p6 n_p6 c_p6, .slice A_p7 n_p7 c_p7, .slice A_p8 n_p8 c_p8] 23))).below ((Below.refl _ _).alloc (Nat.le_refl _) (.cells #[.slice vA vn vc, .slice uA un uc] 23))).below ((Below.refl _ _).alloc (Nat.le_refl _) (.cells #[.slice uA un uc, .slice vA vn vc] 23))).below hb9).below hb10).below hb11).below hb12), ((((((((o_p8.mono (bt (bt (bt (bt (bt (bt (bt (bt hb1 hb2) hb3) hb4) hb5) hb6) (belowA _ _)) hb7) (belowA _ _)).size).below ((Below.refl _ _).alloc (Nat.le_refl _) (.cells #[.slice A_p1 n_p1 c_p1, .slice A_p2 n_p2 c_p2, .slice A_p3 n_p3 c_p3, .slice A_p4 n_p4 c_p4, .slice A_p5 n_p5 c_p5, .slice A_p6 n_p6 c_p6, .slice A_p7 n_p7 c_p7, .slice A_p8 n_p8 c_p8] 23))).below ((Below.refl _ _).alloc (Nat.le_refl _) (.cells #[.slice vA vn vc, .slice uA un uc] 23))).below ((Below.refl _ _).alloc (Nat.le_refl _) (.cells #[.slice uA un uc, .slice vA vn vc] 23))).below hb9).below hb10).below hb11).below hb12), ((((o_p9.mono (bt (bt (bt (bt (bt (bt (bt (bt (bt (bt (bt (bt hb1 hb2) hb3) hb4) hb5) hb6) (belowA _ _)) hb7) (belowA _ _)) hb8) ((Below.refl _ _).alloc (Nat.le_refl _) (.cells #[.slice A_p1 n_p1 c_p1, .slice A_p2 n_p2 c_p2, .slice A_p3 n_p3 c_p3, .slice A_p4 n_p4 c_p4, .slice A_p5 n_p5 c_p5, .slice A_p6 n_p6 c_p6, .slice A_p7 n_p7 c_p7, .slice A_p8 n_p8 c_p8] 23))) ((Below.refl _ _).alloc (Nat.le_refl _) (.cells #[.slice vA vn vc, .slice uA un uc] 23))) ((Below.refl _ _).alloc (Nat.le_refl _) (.cells #[.slice uA un uc, .slice vA vn vc] 23))).size).below hb10).below hb11).below hb12), (((o_p10.mono (bt (bt (bt (bt (bt (bt (bt (bt (bt (bt (bt (bt (bt hb1 hb2) hb3) hb4) hb5) hb6) (belowA _ _)) hb7) (belowA _ _)) hb8) ((Below.refl _ _).alloc (Nat.le_refl _) (.cells #[.slice A_p1 n_p1 c_p1, .slice A_p2 n_p2 c_p2, .slice A_p3 n_p3 c_p3, .slice A_p4 n_p4 c_p4, .slice A_p5 n_p5 c_p5, .slice A_p6 n_p6 c_p6, .slice A_p7 n_p7 c_p7, .slice A_p8 n_p8 c_p8] 23))) ((Below.refl _ _).alloc (Nat.le_refl _) (.cells #[.slice vA vn vc, .slice uA un uc] 23))) ((Below.refl _ _).alloc (Nat.le_refl _) (.cells #[.slice uA un uc, .slice vA vn vc] 23))) hb9).size).below hb11).below hb12), ((o_p11.mono (bt (bt (bt (bt (bt (bt (bt (bt (bt (bt (bt (bt (bt (bt hb1 hb2) hb3) hb4) hb5) hb6) (belowA _ _)) hb7) (belowA _ _)) hb8) ((Below.refl _ _).alloc (Nat.le_refl _) (.cells #[.slice A_p1 n_p1 c_p1, .slice A_p2 n_p2 c_p2, .slice A_p3 n_p3 c_p3, .slice A_p4 n_p4 c_p4, .slice A_p5 n_p5 c_p5, .slice A_p6 n_p6 c_p6, .slice A_p7 n_p7 c_p7, .slice A_p8 n_p8 c_p8] 23))) ((Below.refl _ _).alloc (Nat.le_refl _) (.cells #[.slice vA vn vc, .slice uA un uc] 23))) ((Below.refl _ _).alloc (Nat.le_refl _) (.cells #[.slice uA un uc, .slice vA vn vc] 23))) hb9) hb10).size).below hb12), (o_p12.mono (bt (bt (bt (bt (bt (bt (bt (bt (bt (bt (bt (bt (bt (bt (bt hb1 hb2) hb3) hb4) hb5) hb6) (belowA _ _)) hb7) (belowA _ _)) hb8) ((Below.refl _ _).alloc (Nat.le_refl _) (.cells #[.slice A_p1 n_p1 c_p1, .slice A_p2 n_p2 c_p2, .slice A_p3 n_p3 c_p3, .slice A_p4 n_p4 c_p4, .slice A_p5 n_p5 c_p5, .slice A_p6 n_p6 c_p6, .slice A_p7 n_p7 c_p7, .slice A_p8 n_p8 c_p8] 23))) ((Below.refl _ _).alloc (Nat.le_refl _) (.cells #[.slice vA vn vc, .slice uA un uc] 23))) ((Below.refl _ _).alloc (Nat.le_refl _) (.cells #[.slice uA un uc, .slice vA vn vc] 23))) hb9) hb10) hb11).size), trivial⟩
  have HCH : Hid (Chain w.heap.size [(A_p1, n_p1, c_p1), (A_p2, n_p2, c_p2), (A_p3, n_p3, c_p3), (A_p4, n_p4, c_p4), (A_p5, n_p5, c_p5), (A_p6, n_p6, c_p6), (A_p7, n_p7, c_p7), (A_p8, n_p8, c_p8), (A_p9, n_p9, c_p9), (A_p10, n_p10, c_p10), (A_p11, n_p11, c_p11), (A_p12, n_p12, c_p12)] w12.heap.size) := ⟨_, hb1.size, L_p1.out.mono (Nat.le_refl _) (Nat.le_refl _), ⟨_, hb2.size, L_p2.out.mono (Nat.le_refl _) (Nat.le_refl _), ⟨_, hb3.size, L_p3.out.mono (Nat.le_refl _) (Nat.le_refl _), ⟨_, hb4.size, L_p4.out.mono (Nat.le_refl _) (Nat.le_refl _), ⟨_, hb5.size, L_p5.out.mono (Nat.le_refl _) (Nat.le_refl _), ⟨_, hb6.size, L_p6.out.mono (Nat.le_refl _) (Nat.le_refl _), ⟨_, (bt (belowA _ _) hb7).size, L_p7.out.mono (belowA _ _).size (Nat.le_refl _), ⟨_, (bt (belowA _ _) hb8).size, L_p8.out.mono (belowA _ _).size (Nat.le_refl _), ⟨_, (bt (bt (bt ((Below.refl _ _).alloc (Nat.le_refl _) (.cells #[.slice A_p1 n_p1 c_p1, .slice A_p2 n_p2 c_p2, .slice A_p3 n_p3 c_p3, .slice A_p4 n_p4 c_p4, .slice A_p5 n_p5 c_p5, .slice A_p6 n_p6 c_p6, .slice A_p7 n_p7 c_p7, .slice A_p8 n_p8 c_p8] 23)) ((Below.refl _ _).alloc (Nat.le_refl _) (.cells #[.slice vA vn vc, .slice uA un uc] 23))) ((Below.refl _ _).alloc (Nat.le_refl _) (.cells #[.slice uA un uc, .slice vA vn vc] 23))) hb9).size, L_p9.out.mono (bt (bt ((Below.refl _ _).alloc (Nat.le_refl _) (.cells #[.slice A_p1 n_p1 c_p1, .slice A_p2 n_p2 c_p2, .slice A_p3 n_p3 c_p3, .slice A_p4 n_p4 c_p4, .slice A_p5 n_p5 c_p5, .slice A_p6 n_p6 c_p6, .slice A_p7 n_p7 c_p7, .slice A_p8 n_p8 c_p8] 23)) ((Below.refl _ _).alloc (Nat.le_refl _) (.cells #[.slice vA vn vc, .slice uA un uc] 23))) ((Below.refl _ _).alloc (Nat.le_refl _) (.cells #[.slice uA un uc, .slice vA vn vc] 23))).size (Nat.le_refl _), ⟨_, hb10.size, L_p10.out.mono (Nat.le_refl _) (Nat.le_refl _), ⟨_, hb11.size, L_p11.out.mono (Nat.le_refl _) (Nat.le_refl _), ⟨_, hb12.size, L_p12.out.mono (Nat.le_refl _) (Nat.le_refl _), (Nat.le_refl _)⟩⟩⟩⟩⟩⟩⟩⟩⟩⟩⟩⟩
  have HBW := Lib.hid (bt (bt (bt (bt (bt (bt (bt (bt (bt (bt (bt (bt (bt (bt (bt (bt hb1 hb2) hb3) hb4) hb5) hb6) (belowA _ _)) hb7) (belowA _ _)) hb8) ((Below.refl _ _).alloc (Nat.le_refl _) (.cells #[.slice A_p1 n_p1 c_p1, .slice A_p2 n_p2 c_p2, .slice A_p3 n_p3 c_p3, .slice A_p4 n_p4 c_p4, .slice A_p5 n_p5 c_p5, .slice A_p6 n_p6 c_p6, .slice A_p7 n_p7 c_p7, .slice A_p8 n_p8 c_p8] 23))) ((Below.refl _ _).alloc (Nat.le_refl _) (.cells #[.slice vA vn vc, .slice uA un uc] 23))) ((Below.refl _ _).alloc (Nat.le_refl _) (.cells #[.slice uA un uc, .slice vA vn vc] 23))) hb9) hb10) hb11) hb12)
  obtain ⟨F, hE, hF⟩ := v12 (M := 8388608) HO.out (by omega)
  have HF := Lib.hid (And.intro hE hF)
  clear HO hE hF
  go_wp2_with (at_builtin; (refine wpList_appVs rfl (.tmp 64) (.tmp 69) rfl HE.out (us := [.slice A_p9 n_p9 c_p9, .slice A_p10 n_p10 c_p10, .slice A_p11 n_p11 c_p11, .slice A_p12 n_p12 c_p12]) rfl rfl (HR8.out.below (belowA _ _)) (RowV.lit (T := 23) (B := 0) _ [.slice A_p9 n_p9 c_p9, .slice A_p10 n_p10 c_p10, .slice A_p11 n_p11 c_p11, .slice A_p12 n_p12 c_p12] rfl (by simp) (Nat.zero_le _)).rd (by simp [Value.oneCell']) (by omega) (by simp) (by have := HBW.out.size; simp; omega) ?_); intro A_z c_z wz hz hbz hgz)
  have HZ := Lib.hid (And.intro hz (And.intro ((HBW.out.alloc HBW.out.size _).trans hbz) (((HF.out.1.below (belowA _ _)).grown (HR8.out.below (belowA _ _)) (by decide) hgz))))
  have HS := hbz.size
  clear hz hbz hgz
  go_ret
  exact ⟨A_z, c_z, [(A_p1, n_p1, c_p1), (A_p2, n_p2, c_p2), (A_p3, n_p3, c_p3), (A_p4, n_p4, c_p4), (A_p5, n_p5, c_p5), (A_p6, n_p6, c_p6), (A_p7, n_p7, c_p7), (A_p8, n_p8, c_p8), (A_p9, n_p9, c_p9), (A_p10, n_p10, c_p10), (A_p11, n_p11, c_p11), (A_p12, n_p12, c_p12)], F, rfl, HZ.out.1, HZ.out.2.2, HCH.out.mono (Nat.le_refl _) (by have := HS; simp at this; omega), HF.out.2, HZ.out.2.1⟩
set_option maxHeartbeats 4000000 in
set_option maxRecDepth 100000 in
theorem mean_any {v u : Value} {x y L K : Nat} {w : World} (h : Num w v x L) (h' : Num w u y K) (hL : L ≤ 1048576) (hK : K ≤ 1048576) :
    Calls Try.prog 6 #[v, u] w (GLs w (V12 x y) 8388608) := by
  have H := Lib.hid h
  have H' := Lib.hid h'
  have HE := Lib.hid elNats
  obtain ⟨vA, vn, vc, _, rfl, _⟩ := id h
  obtain ⟨uA, un, uc, _, rfl, _⟩ := id h'
  clear h h'
  go_enter Try.func6, Try.ntmps6
  go_wp2_with fail
  refine (mul3_any H.out H'.out (by omega) (by omega)).mono ?_
  rintro e w1 ⟨A_p1, n_p1, c_p1, rfl, o_p1, hb1, l_p1⟩
  have L_p1 := Lib.hid o_p1.lies
  go_wp2_with fail
  refine (mul3_any (H.out.below hb1) (H.out.below hb1) (by omega) (by omega)).mono ?_
  rintro e w2 ⟨A_p2, n_p2, c_p2, rfl, o_p2, hb2, l_p2⟩
  have L_p2 := Lib.hid o_p2.lies
  go_wp2_with fail
  refine (norm3_any ((H.out.below hb1).below hb2) (by omega)).mono ?_
  rintro e w3 ⟨A_p3, n_p3, c_p3, rfl, o_p3, hb3, l_p3⟩
  have L_p3 := Lib.hid o_p3.lies
  go_wp2_with fail
  refine (mul3_any ((((H'.out.below hb1).below hb2).below hb3).below ((Below.refl _ _).alloc (Nat.le_refl _) _)) ((Num.lit (t := 30) _ [3] (by simp) (by simp [W_eq, All])).mono (L' := 1) (by simp)) (by omega) (by omega)).mono ?_
  rintro e w4 ⟨A_p4, n_p4, c_p4, rfl, o_p4, hb4, l_p4⟩
  rw [show val W [3] = 3 by simp [val]] at o_p4
  have L_p4 := Lib.hid o_p4.lies
  go_wp2_with fail
  refine (mulAdd3_any (((((H.out.below hb1).below hb2).below hb3).below ((Below.refl _ _).alloc (Nat.le_refl _) _)).below hb4) (((((H'.out.below hb1).below hb2).below hb3).below ((Below.refl _ _).alloc (Nat.le_refl _) _)).below hb4) (((((H.out.below hb1).below hb2).below hb3).below ((Below.refl _ _).alloc (Nat.le_refl _) _)).below hb4) (by omega) (by omega) (by omega)).mono ?_
  rintro e w5 ⟨A_p5, n_p5, c_p5, rfl, o_p5, hb5, l_p5⟩
  have L_p5 := Lib.hid o_p5.lies
  go_wp2_with fail
  refine (norm3_any ((((((H.out.below hb1).below hb2).below hb3).below ((Below.refl _ _).alloc (Nat.le_refl _) _)).below hb4).below hb5) (by omega)).mono ?_
  rintro e w6 ⟨A_p6, n_p6, c_p6, rfl, o_p6, hb6, l_p6⟩
  have L_p6 := Lib.hid o_p6.lies
  go_wp2_with fail
  refine (mul3_any (((((((H.out.below hb1).below hb2).below hb3).below ((Below.refl _ _).alloc (Nat.le_refl _) _)).below hb4).below hb5).below hb6) (((((((H'.out.below hb1).below hb2).below hb3).below ((Below.refl _ _).alloc (Nat.le_refl _) _)).below hb4).below hb5).below hb6) (by omega) (by omega)).mono ?_
  rintro e w7 ⟨A_p7, n_p7, c_p7, rfl, o_p7, hb7, l_p7⟩
  have L_p7 := Lib.hid o_p7.lies
  go_wp2_with fail
  refine (norm3_any ((((((((H.out.below hb1).below hb2).below hb3).below ((Below.refl _ _).alloc (Nat.le_refl _) _)).below hb4).below hb5).below hb6).below hb7) (by omega)).mono ?_
  rintro e w8 ⟨A_p8, n_p8, c_p8, rfl, o_p8, hb8, l_p8⟩
  have L_p8 := Lib.hid o_p8.lies
  have HB8 := Lib.hid (bt (bt (bt (bt (bt (bt (bt (bt hb1 hb2) hb3) ((Below.refl _ _).alloc (Nat.le_refl _) _)) hb4) hb5) hb6) hb7) hb8)
  go_wp2_with fail
  refine (dot3_any ((Nums.lit2 (T := 23) (w := (World.alloc w8 (.cells #[.slice A_p1 n_p1 c_p1, .slice A_p2 n_p2 c_p2, .slice A_p3 n_p3 c_p3, .slice A_p4 n_p4 c_p4, .slice A_p5 n_p5 c_p5, .slice A_p6 n_p6 c_p6, .slice A_p7 n_p7 c_p7, .slice A_p8 n_p8 c_p8] 23))) (by simp) (((((((((((H.out.below hb1).below hb2).below hb3).below ((Below.refl _ _).alloc (Nat.le_refl _) _)).below hb4).below hb5).below hb6).below hb7).below hb8).below ((Below.refl _ _).alloc (Nat.le_refl _) (.cells #[.slice A_p1 n_p1 c_p1, .slice A_p2 n_p2 c_p2, .slice A_p3 n_p3 c_p3, .slice A_p4 n_p4 c_p4, .slice A_p5 n_p5 c_p5, .slice A_p6 n_p6 c_p6, .slice A_p7 n_p7 c_p7, .slice A_p8 n_p8 c_p8] 23))).below ((Below.refl _ _).alloc (Nat.le_refl _) (.cells #[.slice vA vn vc, .slice uA un uc] 23))) (((((((((((H'.out.below hb1).below hb2).below hb3).below ((Below.refl _ _).alloc (Nat.le_refl _) _)).below hb4).below hb5).below hb6).below hb7).below hb8).below ((Below.refl _ _).alloc (Nat.le_refl _) (.cells #[.slice A_p1 n_p1 c_p1, .slice A_p2 n_p2 c_p2, .slice A_p3 n_p3 c_p3, .slice A_p4 n_p4 c_p4, .slice A_p5 n_p5 c_p5, .slice A_p6 n_p6 c_p6, .slice A_p7 n_p7 c_p7, .slice A_p8 n_p8 c_p8] 23))).below ((Below.refl _ _).alloc (Nat.le_refl _) (.cells #[.slice vA vn vc, .slice uA un uc] 23)))).below ((Below.refl _ _).alloc (Nat.le_refl _) (.cells #[.slice uA un uc, .slice vA vn vc] 23))) (Nums.lit2 (T := 23) (w := (World.alloc (World.alloc w8 (.cells #[.slice A_p1 n_p1 c_p1, .slice A_p2 n_p2 c_p2, .slice A_p3 n_p3 c_p3, .slice A_p4 n_p4 c_p4, .slice A_p5 n_p5 c_p5, .slice A_p6 n_p6 c_p6, .slice A_p7 n_p7 c_p7, .slice A_p8 n_p8 c_p8] 23)) (.cells #[.slice vA vn vc, .slice uA un uc] 23))) (by simp) ((((((((((((H'.out.below hb1).below hb2).below hb3).below ((Below.refl _ _).alloc (Nat.le_refl _) _)).below hb4).below hb5).below hb6).below hb7).below hb8).below ((Below.refl _ _).alloc (Nat.le_refl _) (.cells #[.slice A_p1 n_p1 c_p1, .slice A_p2 n_p2 c_p2, .slice A_p3 n_p3 c_p3, .slice A_p4 n_p4 c_p4, .slice A_p5 n_p5 c_p5, .slice A_p6 n_p6 c_p6, .slice A_p7 n_p7 c_p7, .slice A_p8 n_p8 c_p8] 23))).below ((Below.refl _ _).alloc (Nat.le_refl _) (.cells #[.slice vA vn vc, .slice uA un uc] 23))).below ((Below.refl _ _).alloc (Nat.le_refl _) (.cells #[.slice uA un uc, .slice vA vn vc] 23))) ((((((((((((H.out.below hb1).below hb2).below hb3).below ((Below.refl _ _).alloc (Nat.le_refl _) _)).below hb4).below hb5).below hb6).below hb7).below hb8).below ((Below.refl _ _).alloc (Nat.le_refl _) (.cells #[.slice A_p1 n_p1 c_p1, .slice A_p2 n_p2 c_p2, .slice A_p3 n_p3 c_p3, .slice A_p4 n_p4 c_p4, .slice A_p5 n_p5 c_p5, .slice A_p6 n_p6 c_p6, .slice A_p7 n_p7 c_p7, .slice A_p8 n_p8 c_p8] 23))).below ((Below.refl _ _).alloc (Nat.le_refl _) (.cells #[.slice vA vn vc, .slice uA un uc] 23))).below ((Below.refl _ _).alloc (Nat.le_refl _) (.cells #[.slice uA un uc, .slice vA vn vc] 23)))) (by omega) (by simp [lsum]; omega) (by simp [lsum]; omega)).mono ?_
  rintro e w9 ⟨A_p9, n_p9, c_p9, rfl, o_p9, hb9, l_p9⟩
  rw [show ldot [x, y] [y, x] = x * y + y * x by simp [ldot]] at o_p9
  rw [show lsum [L, K] + lsum [K, L] + 2 = L + K + (K + L) + 2 by simp [lsum]] at l_p9
  have L_p9 := Lib.hid o_p9.lies
  go_wp2_with fail
  refine (pow3_any (((((((((((((H.out.below hb1).below hb2).below hb3).below ((Below.refl _ _).alloc (Nat.le_refl _) _)).below hb4).below hb5).below hb6).below hb7).below hb8).below ((Below.refl _ _).alloc (Nat.le_refl _) (.cells #[.slice A_p1 n_p1 c_p1, .slice A_p2 n_p2 c_p2, .slice A_p3 n_p3 c_p3, .slice A_p4 n_p4 c_p4, .slice A_p5 n_p5 c_p5, .slice A_p6 n_p6 c_p6, .slice A_p7 n_p7 c_p7, .slice A_p8 n_p8 c_p8] 23))).below ((Below.refl _ _).alloc (Nat.le_refl _) (.cells #[.slice vA vn vc, .slice uA un uc] 23))).below ((Below.refl _ _).alloc (Nat.le_refl _) (.cells #[.slice uA un uc, .slice vA vn vc] 23))).below hb9) (N := 1) (by rfl) (by omega) (by omega)).mono ?_
  rintro e w10 ⟨A_p10, n_p10, c_p10, rfl, o_p10, hb10, l_p10⟩
  rw [Nat.pow_one] at o_p10
  have L_p10 := Lib.hid o_p10.lies
  go_wp2_with fail
  refine (pow3_any ((((((((((((((H'.out.below hb1).below hb2).below hb3).below ((Below.refl _ _).alloc (Nat.le_refl _) _)).below hb4).below hb5).below hb6).below hb7).below hb8).below ((Below.refl _ _).alloc (Nat.le_refl _) (.cells #[.slice A_p1 n_p1 c_p1, .slice A_p2 n_p2 c_p2, .slice A_p3 n_p3 c_p3, .slice A_p4 n_p4 c_p4, .slice A_p5 n_p5 c_p5, .slice A_p6 n_p6 c_p6, .slice A_p7 n_p7 c_p7, .slice A_p8 n_p8 c_p8] 23))).below ((Below.refl _ _).alloc (Nat.le_refl _) (.cells #[.slice vA vn vc, .slice uA un uc] 23))).below ((Below.refl _ _).alloc (Nat.le_refl _) (.cells #[.slice uA un uc, .slice vA vn vc] 23))).below hb9).below hb10) (N := 2) (by rfl) (by omega) (by omega)).mono ?_
  rintro e w11 ⟨A_p11, n_p11, c_p11, rfl, o_p11, hb11, l_p11⟩
  rw [Nat.pow_two] at o_p11
  have L_p11 := Lib.hid o_p11.lies
  go_wp2_with fail
  refine (low3_any (((((((((((((((H.out.below hb1).below hb2).below hb3).below ((Below.refl _ _).alloc (Nat.le_refl _) _)).below hb4).below hb5).below hb6).below hb7).below hb8).below ((Below.refl _ _).alloc (Nat.le_refl _) (.cells #[.slice A_p1 n_p1 c_p1, .slice A_p2 n_p2 c_p2, .slice A_p3 n_p3 c_p3, .slice A_p4 n_p4 c_p4, .slice A_p5 n_p5 c_p5, .slice A_p6 n_p6 c_p6, .slice A_p7 n_p7 c_p7, .slice A_p8 n_p8 c_p8] 23))).below ((Below.refl _ _).alloc (Nat.le_refl _) (.cells #[.slice vA vn vc, .slice uA un uc] 23))).below ((Below.refl _ _).alloc (Nat.le_refl _) (.cells #[.slice uA un uc, .slice vA vn vc] 23))).below hb9).below hb10).below hb11) (((((((((((((((H'.out.below hb1).below hb2).below hb3).below ((Below.refl _ _).alloc (Nat.le_refl _) _)).below hb4).below hb5).below hb6).below hb7).below hb8).below ((Below.refl _ _).alloc (Nat.le_refl _) (.cells #[.slice A_p1 n_p1 c_p1, .slice A_p2 n_p2 c_p2, .slice A_p3 n_p3 c_p3, .slice A_p4 n_p4 c_p4, .slice A_p5 n_p5 c_p5, .slice A_p6 n_p6 c_p6, .slice A_p7 n_p7 c_p7, .slice A_p8 n_p8 c_p8] 23))).below ((Below.refl _ _).alloc (Nat.le_refl _) (.cells #[.slice vA vn vc, .slice uA un uc] 23))).below ((Below.refl _ _).alloc (Nat.le_refl _) (.cells #[.slice uA un uc, .slice vA vn vc] 23))).below hb9).below hb10).below hb11) (n := 2) (by rfl) (by omega) (by omega) (by omega)).mono ?_
  rintro e w12 ⟨A_p12, n_p12, c_p12, rfl, o_p12, hb12, l_p12⟩
  have L_p12 := Lib.hid o_p12.lies
  have HR8 := Lib.hid (((((((RowV.lit (T := 23) (B := w.heap.size) w8 [.slice A_p1 n_p1 c_p1, .slice A_p2 n_p2 c_p2, .slice A_p3 n_p3 c_p3, .slice A_p4 n_p4 c_p4, .slice A_p5 n_p5 c_p5, .slice A_p6 n_p6 c_p6, .slice A_p7 n_p7 c_p7, .slice A_p8 n_p8 c_p8] rfl (by simp) HB8.out.size).below ((Below.refl _ _).alloc (Nat.le_refl _) (.cells #[.slice vA vn vc, .slice uA un uc] 23))).below ((Below.refl _ _).alloc (Nat.le_refl _) (.cells #[.slice uA un uc, .slice vA vn vc] 23))).below hb9).below hb10).below hb11).below hb12)
  have HO : Hid (AllO 30 w.heap.size w12 [((A_p1, n_p1, c_p1), dg W (x * y)), ((A_p2, n_p2, c_p2), dg W (x * x)), ((A_p3, n_p3, c_p3), dg W x), ((A_p4, n_p4, c_p4), dg W (y * 3)), ((A_p5, n_p5, c_p5), dg W (x * y + x)), ((A_p6, n_p6, c_p6), dg W x), ((A_p7, n_p7, c_p7), dg W (x * y)), ((A_p8, n_p8, c_p8), dg W x), ((A_p9, n_p9, c_p9), dg W (x * y + y * x)), ((A_p10, n_p10, c_p10), dg W x), ((A_p11, n_p11, c_p11), dg W (y * y)), ((A_p12, n_p12, c_p12), dg W (x * y % W ^ 2))]) := ⟨(((((((((((((((o_p1.below hb2).below hb3).below ((Below.refl _ _).alloc (Nat.le_refl _) _)).below hb4).below hb5).below hb6).below hb7).below hb8).below ((Below.refl _ _).alloc (Nat.le_refl _) (.cells #[.slice A_p1 n_p1 c_p1, .slice A_p2 n_p2 c_p2, .slice A_p3 n_p3 c_p3, .slice A_p4 n_p4 c_p4, .slice A_p5 n_p5 c_p5, .slice A_p6 n_p6 c_p6, .slice A_p7 n_p7 c_p7, .slice A_p8 n_p8 c_p8] 23))).below ((Below.refl _ _).alloc (Nat.le_refl _) (.cells #[.slice vA vn vc, .slice uA un uc] 23))).below ((Below.refl _ _).alloc (Nat.le_refl _) (.cells #[.slice uA un uc, .slice vA vn vc] 23))).below hb9).below hb10).below hb11).below hb12), (((((((((((((((o_p2.mono hb1.size).below hb3).below ((Below.refl _ _).alloc (Nat.le_refl _) _)).below hb4).below hb5).below hb6).below hb7).below hb8).below ((Below.refl _ _).alloc (Nat.le_refl _) (.cells #[.slice A_p1 n_p1 c_p1, .slice A_p2 n_p2 c_p2, .slice A_p3 n_p3 c_p3, .slice A_p4 n_p4 c_p4, .slice A_p5 n_p5 c_p5, .slice A_p6 n_p6 c_p6, .slice A_p7 n_p7 c_p7, .slice A_p8 n_p8 c_p8] 23))).below ((Below.refl _ _).alloc (Nat.le_refl _) (.cells #[.slice vA vn vc, .slice uA un uc] 23))).below ((Below.refl _ _).alloc (Nat.le_refl _) (.cells #[.slice uA un uc, .slice vA vn vc] 23))).below hb9).below hb10).below hb11).below hb12), ((((((((((((((o_p3.mono (bt hb1 hb2).size).below ((Below.refl _ _).alloc (Nat.le_refl _) _)).below hb4).below hb5).below hb6).below hb7).below hb8).below ((Below.refl _ _).alloc (Nat.le_refl _) (.cells #[.slice A_p1 n_p1 c_p1, .slice A_p2 n_p2 c_p2, .slice A_p3 n_p3 c_p3, .slice A_p4 n_p4 c_p4, .slice A_p5 n_p5 c_p5, .slice A_p6 n_p6 c_p6, .slice A_p7 n_p7 c_p7, .slice A_p8 n_p8 c_p8] 23))).below ((Below.refl _ _).alloc (Nat.le_refl _) (.cells #[.slice vA vn vc, .slice uA un uc] 23))).below ((Below.refl _ _).alloc (Nat.le_refl _) (.cells #[.slice uA un uc, .slice vA vn vc] 23))).below hb9).below hb10).below hb11).below hb12), ((((((((((((o_p4.mono (bt (bt (bt hb1 hb2) hb3) ((Below.refl _ _).alloc (Nat.le_refl _) _)).size).below hb5).below hb6).below hb7).below hb8).below ((Below.refl _ _).alloc (Nat.le_refl _) (.cells #[.slice A_p1 n_p1 c_p1, .slice A_p2 n_p2 c_p2, .slice A_p3 n_p3 c_p3, .slice A_p4 n_p4 c_p4, .slice A_p5 n_p5 c_p5, .slice A_p6 n_p6 c_p6, .slice A_p7 n_p7 c_p7, .slice A_p8 n_p8 c_p8] 23))).below ((Below.refl _ _).alloc (Nat.le_refl _) (.cells #[.slice vA vn vc, .slice uA un uc] 23))).below ((Below.refl _ _).alloc (Nat.le_refl _) (.cells #[.slice uA un uc, .slice vA vn vc] 23))).below hb9).below hb10).below hb11).below hb12), (((((((((((o_p5.mono (bt (bt (bt (bt hb1 hb2) hb3) ((Below.refl _ _).alloc (Nat.le_refl _) _)) hb4).size).below hb6).below hb7).below hb8).below ((Below.refl _ _).alloc (Nat.le_refl _) (.cells #[.slice A_p1 n_p1 c_p1, .slice A_p2 n_p2 c_p2, .slice A_p3 n_p3 c_p3, .slice A_p4 n_p4 c_p4, .slice A_p5 n_p5 c_p5, .slice A_p6 n_p6 c_p6, .slice A_p7 n_p7 c_p7, .slice A_p8 n_p8 c_p8] 23))).below ((Below.refl _ _).alloc (Nat.le_refl _) (.cells #[.slice vA vn vc, .slice uA un uc] 23))).below ((Below.refl _ _).alloc (Nat.le_refl _) (.cells #[.slice uA un uc, .slice vA vn vc] 23))).below hb9).below hb10).below hb11).below hb12), ((((((((((o_p6.mono (bt (bt (bt (bt (bt hb1 hb2) hb3) ((Below.refl _ _).alloc (Nat.le_refl _) _)) hb4) hb5).size).below hb7).below hb8).below ((Below.refl _ _).alloc (Nat.le_refl _) (.cells #[.slice A_p1 n_p1 c_p1, .slice A_p2 n_p2 c_p2, .slice A_p3 n_p3 c_p3, .slice A_p4 n_p4 c_p4, .slice A_p5 n_p5 c_p5, .slice A_p6 n_p6 c_p6, .slice A_p7 n_p7 c_p7, .slice A_p8 n_p8 c_p8] 23))).below ((Below.refl _ _).alloc (Nat.le_refl _) (.cells #[.slice vA vn vc, .slice uA un uc] 23))).below ((Below.refl _ _).alloc (Nat.le_refl _) (.cells #[.slice uA un uc, .slice vA vn vc] 23))).below hb9).below hb10).below hb11).below hb12), (((((((((o_p7.mono (bt (bt (bt (bt (bt (bt hb1 hb2) hb3) ((Below.refl _ _).alloc (Nat.le_refl _) _)) hb4) hb5) hb6).size).below hb8).below ((Below.refl _ _).alloc (Nat.le_refl _) (.cells #[.slice A_p1 n_p1 c_p1, .slice A_p2 n_p2 c_p2, .slice A_p3 n_p3 c_p3, .slice A_p4 n_p4 c_p4, .slice A_p5 n_p5 c_p5, .slice A_p6 n_p6 c_p6, .slice A_p7 n_p7 c_p7, .slice A_p8 n_p8 c_p8] 23))).below ((Below.refl _ _).alloc (Nat.le_refl _) (.cells #[.slice vA vn vc, .slice uA un uc] 23))).below ((Below.refl _ _).alloc (Nat.le_refl _) (.cells #[.slice uA un uc, .slice vA vn vc] 23))).below hb9).below hb10).below hb11).below hb12), ((((((((o_p8.mono (bt (bt (bt (bt (bt (bt (bt hb1 hb2) hb3) ((Below.refl _ _).alloc (Nat.le_refl _) _)) hb4) hb5) hb6) hb7).size).below ((Below.refl _ _).alloc (Nat.le_refl _) (.cells #[.slice A_p1 n_p1 c_p1, .slice A_p2 n_p2 c_p2, .slice A_p3 n_p3 c_p3, .slice A_p4 n_p4 c_p4, .slice A_p5 n_p5 c_p5, .slice A_p6 n_p6 c_p6, .slice A_p7 n_p7 c_p7, .slice A_p8 n_p8 c_p8] 23))).below ((Below.refl _ _).alloc (Nat.le_refl _) (.cells #[.slice vA vn vc, .slice uA un uc] 23))).below ((Below.refl _ _).alloc (Nat.le_refl _) (.cells #[.slice uA un uc, .slice vA vn vc] 23))).below hb9).below hb10).below hb11).below hb12), ((((o_p9.mono (bt (bt (bt (bt (bt (bt (bt (bt (bt (bt (bt hb1 hb2) hb3) ((Below.refl _ _).alloc (Nat.le_refl _) _)) hb4) hb5) hb6) hb7) hb8) ((Below.refl _ _).alloc (Nat.le_refl _) (.cells #[.slice A_p1 n_p1 c_p1, .slice A_p2 n_p2 c_p2, .slice A_p3 n_p3 c_p3, .slice A_p4 n_p4 c_p4, .slice A_p5 n_p5 c_p5, .slice A_p6 n_p6 c_p6, .slice A_p7 n_p7 c_p7, .slice A_p8 n_p8 c_p8] 23))) ((Below.refl _ _).alloc (Nat.le_refl _) (.cells #[.slice vA vn vc, .slice uA un uc] 23))) ((Below.refl _ _).alloc (Nat.le_refl _) (.cells #[.slice uA un uc, .slice vA vn vc] 23))).size).below hb10).below hb11).below hb12), (((o_p10.mono (bt (bt (bt (bt (bt (bt (bt (bt (bt (bt (bt (bt hb1 hb2) hb3) ((Below.refl _ _).alloc (Nat.le_refl _) _)) hb4) hb5) hb6) hb7) hb8) ((Below.refl _ _).alloc (Nat.le_refl _) (.cells #[.slice A_p1 n_p1 c_p1, .slice A_p2 n_p2 c_p2, .slice A_p3 n_p3 c_p3, .slice A_p4 n_p4 c_p4, .slice A_p5 n_p5 c_p5, .slice A_p6 n_p6 c_p6, .slice A_p7 n_p7 c_p7, .slice A_p8 n_p8 c_p8] 23))) ((Below.refl _ _).alloc (Nat.le_refl _) (.cells #[.slice vA vn vc, .slice uA un uc] 23))) ((Below.refl _ _).alloc (Nat.le_refl _) (.cells #[.slice uA un uc, .slice vA vn vc] 23))) hb9).size).below hb11).below hb12), ((o_p11.mono (bt (bt (bt (bt (bt (bt (bt (bt (bt (bt (bt (bt (bt hb1 hb2) hb3) ((Below.refl _ _).alloc (Nat.le_refl _) _)) hb4) hb5) hb6) hb7) hb8) ((Below.refl _ _).alloc (Nat.le_refl _) (.cells #[.slice A_p1 n_p1 c_p1, .slice A_p2 n_p2 c_p2, .slice A_p3 n_p3 c_p3, .slice A_p4 n_p4 c_p4, .slice A_p5 n_p5 c_p5, .slice A_p6 n_p6 c_p6, .slice A_p7 n_p7 c_p7, .slice A_p8 n_p8 c_p8] 23))) ((Below.refl _ _).alloc (Nat.le_refl _) (.cells #[.slice vA vn vc, .slice uA un uc] 23))) ((Below.refl _ _).alloc (Nat.le_refl _) (.cells #[.slice uA un uc, .slice vA vn vc] 23))) hb9) hb10).size).below hb12), (o_p12.mono (bt (bt (bt (bt (bt (bt (bt (bt (bt (bt (bt (bt (bt (bt hb1 hb2) hb3) ((Below.refl _ _).alloc (Nat.le_refl _) _)) hb4) hb5) hb6) hb7) hb8) ((Below.refl _ _).alloc (Nat.le_refl _) (.cells #[.slice A_p1 n_p1 c_p1, .slice A_p2 n_p2 c_p2, .slice A_p3 n_p3 c_p3, .slice A_p4 n_p4 c_p4, .slice A_p5 n_p5 c_p5, .slice A_p6 n_p6 c_p6, .slice A_p7 n_p7 c_p7, .slice A_p8 n_p8 c_p8] 23))) ((Below.refl _ _).alloc (Nat.le_refl _) (.cells #[.slice vA vn vc, .slice uA un uc] 23))) ((Below.refl _ _).alloc (Nat.le_refl _) (.cells #[.slice uA un uc, .slice vA vn vc] 23))) hb9) hb10) hb11).size), trivial⟩
  have HCH : Hid (Chain w.heap.size [(A_p1, n_p1, c_p1), (A_p2, n_p2, c_p2), (A_p3, n_p3, c_p3), (A_p4, n_p4, c_p4), (A_p5, n_p5, c_p5), (A_p6, n_p6, c_p6), (A_p7, n_p7, c_p7), (A_p8, n_p8, c_p8), (A_p9, n_p9, c_p9), (A_p10, n_p10, c_p10), (A_p11, n_p11, c_p11), (A_p12, n_p12, c_p12)] w12.heap.size) := ⟨_, hb1.size, L_p1.out.mono (Nat.le_refl _) (Nat.le_refl _), ⟨_, hb2.size, L_p2.out.mono (Nat.le_refl _) (Nat.le_refl _), ⟨_, hb3.size, L_p3.out.mono (Nat.le_refl _) (Nat.le_refl _), ⟨_, (bt ((Below.refl _ _).alloc (Nat.le_refl _) _) hb4).size, L_p4.out.mono ((Below.refl _ _).alloc (Nat.le_refl _) _).size (Nat.le_refl _), ⟨_, hb5.size, L_p5.out.mono (Nat.le_refl _) (Nat.le_refl _), ⟨_, hb6.size, L_p6.out.mono (Nat.le_refl _) (Nat.le_refl _), ⟨_, hb7.size, L_p7.out.mono (Nat.le_refl _) (Nat.le_refl _), ⟨_, hb8.size, L_p8.out.mono (Nat.le_refl _) (Nat.le_refl _), ⟨_, (bt (bt (bt ((Below.refl _ _).alloc (Nat.le_refl _) (.cells #[.slice A_p1 n_p1 c_p1, .slice A_p2 n_p2 c_p2, .slice A_p3 n_p3 c_p3, .slice A_p4 n_p4 c_p4, .slice A_p5 n_p5 c_p5, .slice A_p6 n_p6 c_p6, .slice A_p7 n_p7 c_p7, .slice A_p8 n_p8 c_p8] 23)) ((Below.refl _ _).alloc (Nat.le_refl _) (.cells #[.slice vA vn vc, .slice uA un uc] 23))) ((Below.refl _ _).alloc (Nat.le_refl _) (.cells #[.slice uA un uc, .slice vA vn vc] 23))) hb9).size, L_p9.out.mono (bt (bt ((Below.refl _ _).alloc (Nat.le_refl _) (.cells #[.slice A_p1 n_p1 c_p1, .slice A_p2 n_p2 c_p2, .slice A_p3 n_p3 c_p3, .slice A_p4 n_p4 c_p4, .slice A_p5 n_p5 c_p5, .slice A_p6 n_p6 c_p6, .slice A_p7 n_p7 c_p7, .slice A_p8 n_p8 c_p8] 23)) ((Below.refl _ _).alloc (Nat.le_refl _) (.cells #[.slice vA vn vc, .slice uA un uc] 23))) ((Below.refl _ _).alloc (Nat.le_refl _) (.cells #[.slice uA un uc, .slice vA vn vc] 23))).size (Nat.le_refl _), ⟨_, hb10.size, L_p10.out.mono (Nat.le_refl _) (Nat.le_refl _), ⟨_, hb11.size, L_p11.out.mono (Nat.le_refl _) (Nat.le_refl _), ⟨_, hb12.size, L_p12.out.mono (Nat.le_refl _) (Nat.le_refl _), (Nat.le_refl _)⟩⟩⟩⟩⟩⟩⟩⟩⟩⟩⟩⟩
  have HBW := Lib.hid (bt (bt (bt (bt (bt (bt (bt (bt (bt (bt (bt (bt (bt (bt (bt hb1 hb2) hb3) ((Below.refl _ _).alloc (Nat.le_refl _) _)) hb4) hb5) hb6) hb7) hb8) ((Below.refl _ _).alloc (Nat.le_refl _) (.cells #[.slice A_p1 n_p1 c_p1, .slice A_p2 n_p2 c_p2, .slice A_p3 n_p3 c_p3, .slice A_p4 n_p4 c_p4, .slice A_p5 n_p5 c_p5, .slice A_p6 n_p6 c_p6, .slice A_p7 n_p7 c_p7, .slice A_p8 n_p8 c_p8] 23))) ((Below.refl _ _).alloc (Nat.le_refl _) (.cells #[.slice vA vn vc, .slice uA un uc] 23))) ((Below.refl _ _).alloc (Nat.le_refl _) (.cells #[.slice uA un uc, .slice vA vn vc] 23))) hb9) hb10) hb11) hb12)
  obtain ⟨F, hE, hF⟩ := v12 (M := 8388608) HO.out (by omega)
  have HF := Lib.hid (And.intro hE hF)
  clear HO hE hF
  go_wp2_with (at_builtin; (refine wpList_appVs rfl (.tmp 63) (.tmp 68) rfl HE.out (us := [.slice A_p9 n_p9 c_p9, .slice A_p10 n_p10 c_p10, .slice A_p11 n_p11 c_p11, .slice A_p12 n_p12 c_p12]) rfl rfl (HR8.out.below (belowA _ _)) (RowV.lit (T := 23) (B := 0) _ [.slice A_p9 n_p9 c_p9, .slice A_p10 n_p10 c_p10, .slice A_p11 n_p11 c_p11, .slice A_p12 n_p12 c_p12] rfl (by simp) (Nat.zero_le _)).rd (by simp [Value.oneCell']) (by omega) (by simp) (by have := HBW.out.size; simp; omega) ?_); intro A_z c_z wz hz hbz hgz)
  have HZ := Lib.hid (And.intro hz (And.intro ((HBW.out.alloc HBW.out.size _).trans hbz) (((HF.out.1.below (belowA _ _)).grown (HR8.out.below (belowA _ _)) (by decide) hgz))))
  have HS := hbz.size
  clear hz hbz hgz
  go_ret
  exact ⟨A_z, c_z, [(A_p1, n_p1, c_p1), (A_p2, n_p2, c_p2), (A_p3, n_p3, c_p3), (A_p4, n_p4, c_p4), (A_p5, n_p5, c_p5), (A_p6, n_p6, c_p6), (A_p7, n_p7, c_p7), (A_p8, n_p8, c_p8), (A_p9, n_p9, c_p9), (A_p10, n_p10, c_p10), (A_p11, n_p11, c_p11), (A_p12, n_p12, c_p12)], F, rfl, HZ.out.1, HZ.out.2.2, HCH.out.mono (Nat.le_refl _) (by have := HS; simp at this; omega), HF.out.2, HZ.out.2.1⟩

theorem Els.one {t : TypeId} {B n c : Nat} {w : World} {A : Option Addr} {xs : List Nat} (h : Own .u64 t B w A n c xs) : Els t B w [(A, n, c)] (fun _ => xs) := fun i s hi => by
  rcases i with _ | i
  · simp at hi; subst hi; exact h
  · simp at hi
/-- a row of numbers, made one behind the other -/
def RowI (N : Nat) (w : World) (B : Option Addr) (k e : Nat) (ss : List Sh) (F : Nat → List Nat) (wr : World) : Prop :=
  RowV 23 w.heap.size wr B k e (ss.map shv) ∧ Els 30 w.heap.size wr ss F ∧ Chain w.heap.size ss wr.heap.size ∧ (∀ (i : Nat) (s : Sh), ss[i]? = some s → F i = dg W (pas N i) ∧ s.2.1 ≤ i + 1) ∧ Below w.heap.size w wr
theorem RowI.len {N : Nat} {w wr : World} {B : Option Addr} {k e : Nat} {ss : List Sh} {F : Nat → List Nat} (h : RowI N w B k e ss F wr) : ss.length = k := by
  have := h.1.rd.1.1
  rwa [List.length_map] at this
set_option maxHeartbeats 2000000 in
theorem row2_any {N : Nat} {n' : Int} {w : World} (en : n' = (N : Int)) (hN : N ≤ 1000) : Calls Try.prog 10 #[.int .i64 n'] w (fun e w' => ∃ A c ss F, e = .returned (.tuple #[.slice A (N + 1) c, .int .i64 0]) ∧ RowI N w A (N + 1) c ss F w') := by
  subst en
  have HE := Lib.hid elNats
  go_enter Try.func10, Try.ntmps10
  go_wp2_with fail
  refine (bound_ok (by omega) (by omega)).mono ?_
  rintro e w1 ⟨rfl, hb1⟩
  go_wp2_with fail
  refine (one_any w1).mono ?_
  rintro e w2 ⟨A2, n2, c2, rfl, ho2, hb2, hl2⟩
  have HO : Hid (RowI N w (some ⟨w2.heap.size, 0, none⟩) 1 1 [(A2, n2, c2)] (fun _ => dg W 1) (w2.alloc (.cells #[.slice A2 n2 c2] 23))) := by
    have hb := bt hb1 hb2
    refine ⟨RowV.lit w2 [.slice A2 n2 c2] rfl (by simp) hb.size, Els.one ((ho2.mono hb1.size).alloc _), ⟨w2.heap.size, hb.size, ho2.lies.mono hb1.size (Nat.le_refl _), by simp [Chain]⟩, fun i s hi => ?_, hb.alloc hb.size _⟩
    rcases i with _ | i
    · simp at hi; subst hi; exact ⟨by rw [pas_zero], hl2⟩
    · simp at hi
  clear ho2 hb1 hb2
  go_wp2_with fail
  go_loopw [5, 15] (fun v i wr => ∃ (k : Nat) (B : Option Addr) (e : Nat) (ss : List Sh) (F : Nat → List Nat), Hid (RowI N w B (k + 1) e ss F wr) ∧ k ≤ N ∧ v = .slice B (k + 1) e ∧ i = .int .i64 k) (fun _ i _ => N - (intOf i).toNat)
  case atStart => exact ⟨0, _, _, _, _, HO, by omega, rfl, rfl⟩
  case round =>
    obtain ⟨k, B, e, ss, F, hI, hk, rfl, rfl⟩ := hrel
    by_cases hlt : k < N
    · have hlen := hI.out.len
      obtain ⟨b, off, rfl, hb, hc⟩ := hI.out.1.rd.2 (by omega)
      obtain ⟨s, hs⟩ : ∃ s, ss[k]? = some s := ⟨_, List.getElem?_eq_getElem (by omega)⟩
      have hck : wr.cell? ⟨b, off + k, none⟩ = some (shv s) := by rw [hc k (by omega), List.getElem?_map, hs]; rfl
      have HOk := Lib.hid (And.intro (hI.out.2.1 k s hs) (hI.out.2.2.2.1 k s hs))
      obtain ⟨A', n', c'⟩ := s
      have hck' : wr.cell? ⟨b, off + k, none⟩ = some (.slice A' n' c') := hck
      have HX : Hid (Num wr (.slice A' n' c') (pas N k) (k + 1)) := by
        have h1 := HOk.out.1
        rw [HOk.out.2.1] at h1
        exact h1.num HOk.out.2.2
      have i1 : (0 : Int) ≤ (k : Int) := by omega
      have i2 : (k : Int) < (k : Int) + 1 := by omega
      have HLN := Lib.hid hlen
      clear hc hs hck HOk hlen
      go_wp2_with fail
      refine (next_any HX.out rfl rfl (by omega) hN (by omega)).mono ?_
      rintro e w3 ⟨A3, n3, c3, rfl, ho3, hb3, hl3⟩
      rw [pas_div] at ho3
      have HI3 := Lib.hid (And.intro (hI.out.1.below hb3) (bt hI.out.2.2.2.2 hb3))
      have HP : Hid (Els 30 w.heap.size w3 (ss ++ [(A3, n3, c3)]) (fun i => if i < ss.length then F i else dg W (pas N (k + 1))) ∧ Chain w.heap.size (ss ++ [(A3, n3, c3)]) w3.heap.size ∧ (∀ (i : Nat) (s : Sh), (ss ++ [(A3, n3, c3)])[i]? = some s → (fun i => if i < ss.length then F i else dg W (pas N (k + 1))) i = dg W (pas N i) ∧ s.2.1 ≤ i + 1)) := by
        refine ⟨(hI.out.2.1.below hb3).app (Els.one (ho3.mono hI.out.2.2.2.2.size)), hI.out.2.2.1.app ⟨w3.heap.size, hb3.size, ho3.lies, Nat.le_refl _⟩, fun i s hi => ?_⟩
        have hl := HLN.out
        by_cases h1 : i < ss.length
        · rw [List.getElem?_append_left h1] at hi
          simp only [if_pos h1]
          exact hI.out.2.2.2.1 i s hi
        · rw [List.getElem?_append_right (by omega)] at hi
          simp only [if_neg h1]
          have hi0 : i - ss.length = 0 := by
            have := (List.getElem?_eq_some_iff.1 hi).1
            simp at this; omega
          rw [hi0] at hi
          simp at hi; subst hi
          have : i = k + 1 := by omega
          subst this
          exact ⟨rfl, hl3⟩
      clear hI HX ho3 hb3 hck'
      go_wp2_with (at_builtin; (refine wpList_appVs rfl (.tmp 18) (.tmp 26) rfl HE.out (us := [.slice A3 n3 c3]) rfl rfl (HI3.out.1.below (belowA _ _)) (RowV.lit (T := 23) (B := 0) _ [.slice A3 n3 c3] rfl (by simp) (Nat.zero_le _)).rd (by simp [Value.oneCell']) (by omega) (by simp; omega) (by have := HI3.out.2.size; simp; omega) ?_); intro A4 c4 w4 ho4 hb4 hg4)
      have HW : Hid (RowI N w A4 (k + 1 + 1) c4 (ss ++ [(A3, n3, c3)]) (fun i => if i < ss.length then F i else dg W (pas N (k + 1))) w4) := by
        refine ⟨?_, (HP.out.1.below (belowA _ _)).grown (HI3.out.1.below (belowA _ _)) (by decide) hg4, HP.out.2.1.mono (Nat.le_refl _) (by have := hb4.size; simp at this; omega), HP.out.2.2, (HI3.out.2.alloc HI3.out.2.size _).trans hb4⟩
        rw [List.map_append]
        exact ho4
      clear ho4 hb4 hg4
      go_roundw
      case rel => exact ⟨k + 1, A4, c4, _, _, HW, by omega, by go_num, by go_num⟩
      case measure => simp [intOf]; omega
    · obtain rfl : k = N := by omega
      go_wp2
      go_ret2
      exact ⟨_, _, _, _, rfl, hI.out⟩
end Go.Proofs.Ytajoafcondgelaa
