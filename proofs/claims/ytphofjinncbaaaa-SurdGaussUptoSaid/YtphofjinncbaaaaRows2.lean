/-
  Own slices whose elements are own slices of integers. No program here.
-/
import Derived.Test.YtphofjinncbaaaaFlt
namespace Go.Proofs.Ytphofjinncbaaaa
open Go.RowKit
set_option linter.unusedVariables false

/-- the type's row in the table: one cell that holds a slice -/
def ElemS (P : Program) (TT T : TypeId) : Prop :=
  P.underlying TT = some (.slice T) ∧ (P.info? T).map (fun i => (i.zero, i.size, i.bytes)) = some (some (.slice none 0 0), 1, 24)

/-- an own slice (of element type T) whose elements are own slices (of element type t); F says what each one holds -/
def OwnR (k : IntKind) (t T : TypeId) (B : Nat) (w : World) (A : Option Addr) (n c : Nat) (F : Nat → List Nat → Prop) : Prop :=
  t ≠ T ∧ ∃ vs : List Value, w.ownsRow B T 1 (.slice A n c) n vs ∧ ∀ i, i < n → ∃ A' n' c' xs, vs[i]? = some (.slice A' n' c') ∧ Own k t B w A' n' c' xs ∧ F i xs

section
variable {k : IntKind} {t T TT : TypeId} {B n c : Nat} {w w' : World} {A : Option Addr} {F : Nat → List Nat → Prop} {P : Program}
theorem OwnR.nil (h : t ≠ T) : OwnR k t T B w none 0 0 F := ⟨h, [], World.ownsRow_nil _ _ _ _, fun i hi => absurd hi (Nat.not_lt_zero i)⟩
theorem OwnR.mono {B' : Nat} (h : OwnR k t T B w A n c F) (hB : B' ≤ B) : OwnR k t T B' w A n c F := by
  obtain ⟨h0, vs, h1, h2⟩ := h
  refine ⟨h0, vs, ⟨h1.1, ?_⟩, fun i hi => ?_⟩
  · rcases h1.2 with h3 | ⟨g, cap, cur, hv, hg, r⟩
    · exact .inl h3
    · exact .inr ⟨g, cap, cur, hv, by omega, r⟩
  · obtain ⟨A', n', c', xs, e, o, f⟩ := h2 i hi
    exact ⟨A', n', c', xs, e, o.mono hB, f⟩
theorem ownsRow_below {v : Value} {m : Nat} {xs : List Value} {s : Nat} {e : TypeId} (h : w.ownsRow B e s v m xs) (hb : Below w.heap.size w w') : w'.ownsRow B e s v m xs := by
  refine ⟨h.1, ?_⟩
  rcases h.2 with h2 | ⟨g, cap, cur, hv, hg, hh, r⟩
  · exact .inl h2
  · refine .inr ⟨g, cap, cur, hv, hg, ?_, r⟩
    rw [hb.block g (Array.getElem?_eq_some_iff.1 hh).1]; exact hh
theorem OwnR.below (h : OwnR k t T B w A n c F) (hb : Below w.heap.size w w') : OwnR k t T B w' A n c F := by
  obtain ⟨h0, vs, h1, h2⟩ := h
  refine ⟨h0, vs, ownsRow_below h1 hb, fun i hi => ?_⟩
  obtain ⟨A', n', c', xs, e, o, f⟩ := h2 i hi
  exact ⟨A', n', c', xs, e, o.below hb, f⟩
theorem OwnR.imp {G : Nat → List Nat → Prop} (h : OwnR k t T B w A n c F) (hi : ∀ i xs, i < n → F i xs → G i xs) : OwnR k t T B w A n c G := by
  obtain ⟨h0, vs, h1, h2⟩ := h
  refine ⟨h0, vs, h1, fun i hlt => ?_⟩
  obtain ⟨A', n', c', xs, e, o, f⟩ := h2 i hlt
  exact ⟨A', n', c', xs, e, o, hi i xs hlt f⟩
theorem OwnR.at {i : Nat} (h : OwnR k t T B w A n c F) (hi : i < n) : ∃ g A' n' c' xs, A = some ⟨g, 0, none⟩ ∧ B ≤ g ∧ g < w.heap.size ∧ w.cell? ⟨g, i, none⟩ = some (.slice A' n' c') ∧ Own k t B w A' n' c' xs ∧ F i xs := by
  obtain ⟨h0, vs, h1, h2⟩ := h
  obtain ⟨A', n', c', xs, e, o, f⟩ := h2 i hi
  obtain ⟨g, cap, hv, hb, hlt⟩ := World.ownsRow.form h1 (by omega)
  injection hv with hA _ hc
  subst hA; subst hc
  exact ⟨g, A', n', c', xs, rfl, hb, hlt, by rw [World.ownsRow.cellAt h1 i (by omega), e], o, f⟩
theorem OwnR.cap (h : OwnR k t T B w A n c F) : n ≤ c ∧ c ≤ maxLen := by
  obtain ⟨h0, vs, h1, h2⟩ := h
  rcases h1.2 with ⟨h3, h4⟩ | ⟨g, cap, cur, hv, hg, hh, hnc, hcm, r⟩
  · injection h3 with _ e1 e2; subst e1; subst e2; exact ⟨Nat.le_refl _, Nat.zero_le _⟩
  · injection hv with _ _ e; subst e; exact ⟨hnc, hcm⟩

/-- an own slice of another type than the block that has turned -/
theorem Own.other {T : TypeId} {xs : List Nat} {vs : List Value} {v : Value} {m s : Nat} (ho : Own k t B w A n c xs) (hr : w.ownsRow B T s v m vs) (hne : t ≠ T) (hg : w.grownBy w' v.ownBlock) : Own k t B w' A n c xs := by
  refine World.ownsRow.kept ho hg ?_
  rcases ho.2 with ⟨h1, _⟩ | ⟨g, cap, cur, hv, _, hh, _⟩
  · left; rw [h1]; rfl
  · rcases hr.2 with ⟨h2, _⟩ | ⟨g2, cap2, cur2, hv2, _, hh2, _⟩
    · right; rw [hv, h2]; simp [Value.ownBlock]
    · right
      rw [hv, hv2]
      simp only [Value.ownBlock]
      intro e
      injection e with e
      subst e
      rw [hh] at hh2
      injection hh2 with hh2
      injection hh2 with _ e2 _
      exact hne e2

/-- append of one list -/
theorem run_appR (ty : TypeId) {A1 : Option Addr} {n1 c1 : Nat} {xs : List Nat} {ad : Addr} {c2 : Nat} (he : ElemS P TT T) (hown : OwnR k t T B w A n c F) (ho : Own k t B w A1 n1 c1 xs) (hc : w.cell? ad = some (.slice A1 n1 c1)) (hF : F n xs) (hlen : n + 1 ≤ 1099511627776) (hB : B ≤ w.heap.size) :
    ∃ A' c' w', (Builtin.append_ #[TT, TT] ty #[.slice A n c, .slice (some ad) 1 c2]).run P w = .ok (.slice A' (n + 1) c') w' ∧ OwnR k t T B w' A' (n + 1) c' F ∧ Below B w w' := by
  obtain ⟨hT, hinfo⟩ := he
  obtain ⟨i, hi, hz, hs, hb⟩ := info_parts hinfo
  obtain ⟨h0, vs, h1, h2⟩ := hown
  obtain ⟨v', w', hrun, hr2, hg, _, _⟩ := run_append_own_at (P := P) w B TT ty T i (.slice none 0 0) 1 24 hT hi hz hs hb rfl (by omega) (.slice A n c) n vs h1 ad 1 c2 [.slice A1 n1 c1] (by simp)
    (fun j u hu => by
      cases j with
      | zero =>
        simp at hu
        subst hu
        have : ad.add 0 = ad := by unfold Addr.add; simp
        rw [this]; exact hc
      | succ j => simp at hu) (fun u hu => by simp at hu; subst hu; rfl) (by simp only [maxLen]; omega) (by omega) hB
  have hform : ∃ A' c', v' = .slice A' (n + 1) c' := by
    rcases hr2.2 with ⟨h2, h3⟩ | ⟨g, cap, cur, hv, _⟩
    · omega
    · exact ⟨_, _, hv⟩
  obtain ⟨A', c', rfl⟩ := hform
  refine ⟨A', c', w', hrun, ⟨h0, _, hr2, fun i hlt => ?_⟩, (Below.refl _ _).grown hg hB (fun g hg' => (World.ownsRow.lt h1 g hg').1)⟩
  have hvl : vs.length = n := by have := h1.1; omega
  rcases Nat.lt_or_ge i n with hi' | hi'
  · obtain ⟨A', n', c', ys, e, o, f⟩ := h2 i hi'
    exact ⟨A', n', c', ys, by rw [List.getElem?_append_left (by omega)]; exact e, o.other h1 h0 hg, f⟩
  · obtain rfl : i = n := by omega
    exact ⟨A1, n1, c1, xs, by rw [List.getElem?_append_right (by omega), hvl]; simp, ho.other h1 h0 hg, hF⟩

theorem wp_appR {o : Oper} {a : Act} {K : Act → World → Prop} {Q : Exit → Act → World → Prop} {A1 : Option Addr} {n1 c1 : Nat} {xs : List Nat} {ad : Addr} {c2 : Nat} (s x : Operand)
    (ho : o.op = .call { callee := .builtin .append, args := #[s, x], argTypes := #[TT, TT] }) (he : ElemS P TT T)
    (hs : a.eval s = .slice A n c) (hx : a.eval x = .slice (some ad) 1 c2) (hown : OwnR k t T B w A n c F) (hi : Own k t B w A1 n1 c1 xs) (hc : w.cell? ad = some (.slice A1 n1 c1)) (hF : F n xs) (hlen : n + 1 ≤ 1099511627776) (hB : B ≤ w.heap.size)
    (h : ∀ A' c' w', OwnR k t T B w' A' (n + 1) c' F → Below B w w' → K (a.put o.dst (.slice A' (n + 1) c')) w') : o.wp P a w K Q := by
  obtain ⟨A', c', w', hrun, h2, h3⟩ := run_appR (P := P) (c2 := c2) o.type he hown hi hc hF hlen hB
  unfold Oper.wp execOp
  simp only [ho, resolve, invoke, builtin, Sem.run_bind, Sem.run_pure, Result.andThen_ok, List.map_toArray, List.map_cons, List.map_nil, hs, hx, hrun]
  exact h A' c' w' h2 h3
theorem wpList_appR {ops : Array Oper} {rest : List Oper} {o : Oper} {a : Act} {Q : Exit → Act → World → Prop} {A1 : Option Addr} {n1 c1 : Nat} {xs : List Nat} {ad : Addr} {c2 : Nat} (hgd : o.guard = none) (s x : Operand)
    (ho : o.op = .call { callee := .builtin .append, args := #[s, x], argTypes := #[TT, TT] }) (he : ElemS P TT T)
    (hs : a.eval s = .slice A n c) (hx : a.eval x = .slice (some ad) 1 c2) (hown : OwnR k t T B w A n c F) (hi : Own k t B w A1 n1 c1 xs) (hc : w.cell? ad = some (.slice A1 n1 c1)) (hF : F n xs) (hlen : n + 1 ≤ 1099511627776) (hB : B ≤ w.heap.size)
    (h : ∀ A' c' w', OwnR k t T B w' A' (n + 1) c' F → Below B w w' → wpList P ops Q rest (a.put o.dst (.slice A' (n + 1) c')) w') : wpList P ops Q (o :: rest) a w :=
  wpList_plain hgd fun _ hK => wp_appR s x ho he hs hx hown hi hc hF hlen hB fun A' c' w' h2 h3 => hK _ _ (h A' c' w' h2 h3)
theorem flt_appR {R R1 : World → World → Prop} {G : Nat → Value → World → Prop} {l : List Oper} {Q : Exit → Act → World → Prop} {i : Nat} {o : Oper} {rest : List (Nat × Nat)} {a : Act} {A1 : Option Addr} {n1 c1 : Nat} {xs : List Nat} {ad : Addr} {c2 : Nat} (s x : Operand) (ho' : opAt l i = some o) (hg : o.guard = none)
    (hop : o.op = .call { callee := .builtin .append, args := #[s, x], argTypes := #[TT, TT] }) (he : ElemS P TT T)
    (hs : a.eval s = .slice A n c) (hx : a.eval x = .slice (some ad) 1 c2) (hown : OwnR k t T B w A n c F) (hi : Own k t B w A1 n1 c1 xs) (hc : w.cell? ad = some (.slice A1 n1 c1)) (hF : F n xs) (hlen : n + 1 ≤ 1099511627776) (hB : B ≤ w.heap.size)
    (hR : ∀ w', Below B w w' → R w w')
    (h : ∀ A' c' w', OwnR k t T B w' A' (n + 1) c' F → Below B w w' → wpF P l.toArray Q R R1 rest G (a.put o.dst (.slice A' (n + 1) c')) w') : wpF P l.toArray Q R R1 ((3, i) :: rest) G a w := by
  refine flt_actX ho' fun K hK => ?_
  rw [if_pos (by simp [Region.wanted, hg])]
  exact wp_appR s x hop he hs hx hown hi hc hF hlen hB fun A' c' w' h2 h3 => hK _ _ ⟨hR _ h3, h A' c' w' h2 h3⟩
/-- the slice literal of one list -/
theorem OwnR.lit1 {A1 : Option Addr} {n1 c1 : Nat} {xs : List Nat} (hne : t ≠ T) (ho : Own k t B w A1 n1 c1 xs) (hF : F 0 xs) (hB : B ≤ w.heap.size) : OwnR k t T B (w.alloc (.cells #[.slice A1 n1 c1] T)) (some ⟨w.heap.size, 0, none⟩) 1 1 F := by
  refine ⟨hne, [.slice A1 n1 c1], World.ownsRow_lit (base := B) (e := T) (size := 1) w #[.slice A1 n1 c1] 1 hB (by simp [maxLen]) (by simp), fun i hi => ?_⟩
  obtain rfl : i = 0 := by omega
  exact ⟨A1, n1, c1, xs, rfl, ho.below ((Below.refl _ _).alloc (Nat.le_refl _) _), hF⟩
end
end Go.Proofs.Ytphofjinncbaaaa
