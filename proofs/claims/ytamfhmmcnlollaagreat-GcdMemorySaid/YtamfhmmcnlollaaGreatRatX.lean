/-
  Rows of structs: k cells an element. No program here. Rationals and polynomials in numbers; what they look like in memory. No program here. zz.of, Norm, Nat, Sign, Bits; qq.Check, reduced, Norm, Sign; surdref05.Sign; surdref08.Ok, R, S. qq.Norm; surdref05.Sign, surdref08.Ok, S; qpoly.trim, Norm; surdref10.Good, Form. surdref10.Good, Form. zz.Bits, surdref26.bits; env.Fits, surdref26.Fits. surdlaw26.copyNat, copyPoly.
-/
import Derived.Test.YtamfhmmcnlollaaGreatRows2
import Derived.Test.YtamfhmmcnlollaaGreatExs
import Derived.Test.YtamfhmmcnlollaaGreatApart
import Derived.Test.YtamfhmmcnlollaaGreatIntG
import Derived.Test.YtamfhmmcnlollaaGreatNatB
namespace Go.Proofs.YtamfhmmcnlollaaGreat
open Go.RowKit
set_option linter.unusedVariables false

/-- the type's row in the table: an element of k cells -/
def ElemK (P : Program) (TT T : TypeId) (z : Value) (k bytes : Nat) : Prop :=
  (P.underlying TT = some (.slice T) ∧ (P.info? T).map (fun i => (i.zero, i.size, i.bytes)) = some (some z, k, bytes)) ∧ z.cells.size = k ∧ 0 < k ∧ bytes ≤ 64
/-- a slice whose elements are k cells each reads as a list of cells -/
def RdK (k : Nat) (w : World) (A : Option Addr) (n c : Nat) (vs : List Value) : Prop :=
  (vs.length = n * k ∧ n ≤ c) ∧ (0 < n → ∃ b off, A = some ⟨b, off, none⟩ ∧ b < w.heap.size ∧ ∀ i, i < n * k → w.cell? ⟨b, off + i, none⟩ = vs[i]?)
/-- a row of the call's own -/
def RowK (k : Nat) (T : TypeId) (B : Nat) (w : World) (A : Option Addr) (n c : Nat) (vs : List Value) : Prop := w.ownsRow B T k (.slice A n c) n vs
section
variable {k : Nat} {T TT : TypeId} {B n c m c2 bytes : Nat} {w w' : World} {A A2 : Option Addr} {vs us : List Value} {P : Program} {z : Value}
theorem RdK.below (h : RdK k w A n c vs) (hb : Below w.heap.size w w') : RdK k w' A n c vs :=
  ⟨h.1, fun h0 => by
    obtain ⟨b, off, e, h1, hc⟩ := h.2 h0
    exact ⟨b, off, e, Nat.lt_of_lt_of_le h1 hb.size, fun i hi => (hb.cell (p := ⟨b, off + i, none⟩) h1).trans (hc i hi)⟩⟩
theorem RdK.ex {S : Nat → Prop} (h : RdK k w A n c vs) (hx : Ex S w w') (hs : ∀ a, A = some a → ¬ S a.block) : RdK k w' A n c vs :=
  ⟨h.1, fun h0 => by
    obtain ⟨b, off, e, h1, hc⟩ := h.2 h0
    exact ⟨b, off, e, Nat.lt_of_lt_of_le h1 hx.size, fun i hi => by rw [← hc i hi]; exact World.cell?_of_block (w := w) (hx.block b h1 (hs _ e))⟩⟩
theorem RdK.nil : RdK k w none 0 0 [] := ⟨⟨by simp, Nat.le_refl _⟩, fun h => absurd h (Nat.lt_irrefl 0)⟩
theorem RowK.rd (h : RowK k T B w A n c vs) : RdK k w A n c vs := by
  have hl : vs.length = n * k := h.1
  rcases h.2 with ⟨hv, hn⟩ | ⟨g, cap, cur, hv, hg, hh, hnc, hcm, hcs, ht⟩
  · injection hv with e1 e2 e3
    subst e3
    exact ⟨⟨hl, by omega⟩, fun h0 => absurd h0 (by omega)⟩
  · injection hv with e1 e2 e3
    subst e1; subst e3
    exact ⟨⟨hl, hnc⟩, fun h0 => ⟨g, 0, rfl, (Array.getElem?_eq_some_iff.1 hh).1, fun i hi => by rw [Nat.zero_add]; exact World.ownsRow.cellAt h i hi⟩⟩
theorem RowK.nil : RowK k T B w none 0 0 [] := World.ownsRow_nil _ _ _ _
theorem RowK.below (h : RowK k T B w A n c vs) (hb : Below w.heap.size w w') : RowK k T B w' A n c vs := ownsRow_below h hb
theorem RowK.len (h : RowK k T B w A n c vs) : vs.length = n * k := h.1
theorem RowK.cap (h : RowK k T B w A n c vs) : n ≤ c := h.rd.1.2
theorem RowK.mono {B' : Nat} (h : RowK k T B w A n c vs) (hB : B' ≤ B) : RowK k T B' w A n c vs := by
  refine ⟨h.1, ?_⟩
  rcases h.2 with h3 | ⟨g, cap, cur, hv, hg, r⟩
  · exact .inl h3
  · exact .inr ⟨g, cap, cur, hv, by omega, r⟩
theorem RowK.lit {b : Nat} (w : World) (m : Nat) (vs : List Value) (hb : b = w.heap.size) (hz : vs.length = m * k) (hm : m ≤ 1000) (hB : B ≤ w.heap.size) : RowK k T B (w.alloc (.cells vs.toArray T)) (some ⟨b, 0, none⟩) m m vs := by
  subst hb
  have := World.ownsRow_lit (base := B) (e := T) (size := k) w vs.toArray m hB (by simp only [maxLen]; omega) (by simpa using hz)
  simpa [RowK] using this
theorem RowK.form (h : RowK k T B w A n c vs) (hn : 0 < n) : ∃ g, A = some ⟨g, 0, none⟩ ∧ B ≤ g ∧ g < w.heap.size := by
  obtain ⟨g, cap, hv, hb, hlt⟩ := World.ownsRow.form h hn
  injection hv with hA _ _
  exact ⟨g, hA, hb, hlt⟩
theorem RowK.cell {g i : Nat} (h : RowK k T B w (some ⟨g, 0, none⟩) n c vs) (hi : i < n * k) : w.cell? ⟨g, i, none⟩ = vs[i]? := World.ownsRow.cellAt h i hi
theorem RowK.frozen {g i : Nat} (h : RowK k T B w (some ⟨g, 0, none⟩) n c vs) : w.frozen? ⟨g, i, none⟩ = false := World.ownsRow.frozenAt h i
theorem RowK.stored {g i : Nat} {u : Value} (h : RowK k T B w (some ⟨g, 0, none⟩) n c vs) : RowK k T B (w.setCell ⟨g, i, none⟩ u) (some ⟨g, 0, none⟩) n c (vs.set i u) := (World.ownsRow.stored (j := i) (u := u) h).1
theorem RowK.lies (h : RowK k T B w A n c vs) : Lies A B w.heap.size := by
  intro a e
  subst e
  rcases h.2 with ⟨hv, hn⟩ | ⟨g, cap, cur, hv, hg, hh, _⟩
  · cases hv
  · injection hv with e1 _ _
    injection e1 with e1
    subst e1
    exact ⟨hg, (Array.getElem?_eq_some_iff.1 hh).1⟩
/-- the first elements of a row of its own -/
theorem RowK.upto {j : Nat} (h : RowK k T B w A n c vs) (hj : j ≤ n) (hn : 0 < n) : RowK k T B w A j c (vs.take (j * k)) := by
  rcases h.2 with ⟨hv, hn⟩ | ⟨g, cap, cur, hv, hg, hh, hnc, hcm, hcs, ht⟩
  · omega
  · injection hv with e1 e2 e3
    subst e1; subst e3
    have hjk : j * k ≤ n * k := Nat.mul_le_mul_right _ hj
    refine ⟨by rw [List.length_take, h.1]; omega, .inr ⟨g, c, cur, rfl, hg, hh, by omega, hcm, hcs, ?_⟩⟩
    rw [← ht, List.take_take]
    congr 1
    omega
theorem RdK.upto {j : Nat} (h : RdK k w A n c vs) (hj : j ≤ n) : RdK k w A j c (vs.take (j * k)) := by
  have hjk : j * k ≤ n * k := Nat.mul_le_mul_right _ hj
  refine ⟨⟨by rw [List.length_take, h.1.1]; omega, by have := h.1.2; omega⟩, fun hn => ?_⟩
  obtain ⟨b, off, e, hlt, hc⟩ := h.2 (by omega)
  refine ⟨b, off, e, hlt, fun i hi => ?_⟩
  rw [hc i (by omega), List.getElem?_take, if_pos hi]
/-- append of elements of k cells -/
theorem run_appK (ty : TypeId) (he : ElemK P TT T z k bytes) (hown : RowK k T B w A n c vs) (hr : RdK k w A2 m c2 us) (hv : ∀ u ∈ us, u.oneCell' = true) (hm : 0 < m) (hlen : n + m ≤ 1099511627776) (hB : B ≤ w.heap.size) :
    ∃ A' c' w', (Builtin.append_ #[TT, TT] ty #[.slice A n c, .slice A2 m c2]).run P w = .ok (.slice A' (n + m) c') w' ∧ RowK k T B w' A' (n + m) c' (vs ++ us) ∧ Below B w w' ∧ w.grownBy w' (Value.slice A n c).ownBlock := by
  obtain ⟨⟨hT, hinfo⟩, hzs, hk, hby⟩ := he
  obtain ⟨i, hi, hz, hs1, hb⟩ := info_parts hinfo
  obtain ⟨b, off, e, _, hc⟩ := hr.2 hm
  subst e
  obtain ⟨v', w', hrun, h1, h2, _, _⟩ := run_append_own_at (P := P) w B TT ty T i z k bytes hT hi hz hs1 hb hzs hk _ n _ hown ⟨b, off, none⟩ m c2 us (by rw [hr.1.1]) (by
    intro j u hj
    rw [addo]
    have hjl : j < us.length := (List.getElem?_eq_some_iff.1 hj).1
    rw [hr.1.1] at hjl
    rw [hc j hjl, hj]) hv (by simp only [maxLen]; omega) (by
    calc (n + m) * bytes ≤ 1099511627776 * 64 := Nat.mul_le_mul hlen hby
      _ ≤ 140737488355328 := by decide) hB
  have hform : ∃ A' c', v' = .slice A' (n + m) c' := by
    rcases h1.2 with ⟨h3, h4⟩ | ⟨g, cap, cur, hv, _⟩
    · omega
    · exact ⟨_, _, hv⟩
  obtain ⟨A', c', rfl⟩ := hform
  exact ⟨A', c', w', hrun, h1, (Below.refl _ _).grown h2 hB (fun g hg' => (World.ownsRow.lt hown g hg').1), h2⟩
end
/-- the cells of element j of a list of elements of 3 cells -/
theorem flat3 {α : Type} (f : α → List Value) (hf : ∀ x, (f x).length = 3) : ∀ (l : List α) (j i : Nat) (x : α), l[j]? = some x → i < 3 → (l.flatMap f)[j * 3 + i]? = (f x)[i]?
  | [], j, i, x, h, _ => by simp at h
  | y :: l, 0, i, x, h, hi => by
    simp at h; subst h
    rw [List.flatMap_cons, Nat.zero_mul, Nat.zero_add, List.getElem?_append_left (by rw [hf]; exact hi)]
  | y :: l, j + 1, i, x, h, hi => by
    rw [List.flatMap_cons, List.getElem?_append_right (by rw [hf]; omega), hf]
    have := flat3 f hf l j i x (by simpa using h) hi
    rw [← this]
    congr 1
    omega
theorem flat3_take {α : Type} (f : α → List Value) (hf : ∀ x, (f x).length = 3) : ∀ (l : List α) (j : Nat), (l.flatMap f).take (j * 3) = (l.take j).flatMap f
  | [], j => by simp
  | y :: l, 0 => by simp
  | y :: l, j + 1 => by
    rw [List.flatMap_cons, List.take_succ_cons, List.flatMap_cons, List.take_append, hf, List.take_of_length_le (by rw [hf]; omega)]
    congr 1
    rw [← flat3_take f hf l j]
    congr 1
    omega
end Go.Proofs.YtamfhmmcnlollaaGreat
namespace Go.Proofs.YtamfhmmcnlollaaGreat
open Go.RowKit
set_option linter.unusedVariables false

/-- a coefficient as it comes in: the sign, the numerator, the denominator -/
abbrev Cf := Bool × Nat × Nat
/-- in its own form: the numerator with its sign, the denominator -/
abbrev Cn := Int × Nat
def nrm (r : Cf) : Cn := (sg r.1 (r.2.1 / Nat.gcd r.2.1 r.2.2), r.2.2 / Nat.gcd r.2.1 r.2.2)
/-- a rational's header: the sign, the numerator's slice, the denominator's -/
abbrev Hr := Bool × Sh × Sh
def hrv (h : Hr) : List Value := [.bool h.1, shv h.2.1, shv h.2.2]
theorem hrv_len (h : Hr) : (hrv h).length = 3 := rfl
/-- what came in -/
def RawR (L : Nat) (w : World) (h : Hr) (r : Cf) : Prop := h.1 = r.1 ∧ Num w (shv h.2.1) r.2.1 L ∧ Num w (shv h.2.2) r.2.2 L
/-- in its own form -/
def CanR (L : Nat) (w : World) (h : Hr) (q : Cn) : Prop :=
  h.1 = decide (q.1 < 0) ∧ (Rd .u64 w h.2.1.1 h.2.1.2.1 h.2.1.2.2 (dg W q.1.natAbs) ∧ h.2.1.2.1 ≤ L) ∧ Rd .u64 w h.2.2.1 h.2.2.2.1 h.2.2.2.2 (dg W q.2) ∧ h.2.2.2.1 ≤ L
theorem RawR.below {L : Nat} {w w' : World} {h : Hr} {r : Cf} (H : RawR L w h r) (hb : Below w.heap.size w w') : RawR L w' h r := ⟨H.1, H.2.1.below hb, H.2.2.below hb⟩
theorem CanR.below {L : Nat} {w w' : World} {h : Hr} {r : Cn} (H : CanR L w h r) (hb : Below w.heap.size w w') : CanR L w' h r := ⟨H.1, ⟨H.2.1.1.below hb, H.2.1.2⟩, H.2.2.1.below hb, H.2.2.2⟩
theorem RawR.mono {L L' : Nat} {w : World} {h : Hr} {r : Cf} (H : RawR L w h r) (hL : L ≤ L') : RawR L' w h r := ⟨H.1, H.2.1.mono hL, H.2.2.mono hL⟩
/-- a list of headers and what they hold -/
def All2 {α β : Type} (P : α → β → Prop) (hs : List α) (rs : List β) : Prop := hs.length = rs.length ∧ ∀ (i : Nat) (h : α) (r : β), hs[i]? = some h → rs[i]? = some r → P h r
theorem All2.nil {α β : Type} {P : α → β → Prop} : All2 P [] [] := ⟨rfl, fun i h r e => by simp at e⟩
theorem All2.imp {α β : Type} {P Q : α → β → Prop} {hs : List α} {rs : List β} (H : All2 P hs rs) (f : ∀ h r, P h r → Q h r) : All2 Q hs rs := ⟨H.1, fun i h r e1 e2 => f h r (H.2 i h r e1 e2)⟩
theorem All2.snoc {α β : Type} {P : α → β → Prop} {hs : List α} {rs : List β} {h : α} {r : β} (H : All2 P hs rs) (hp : P h r) : All2 P (hs ++ [h]) (rs ++ [r]) := by
  refine ⟨by simp [H.1], fun i h' r' e1 e2 => ?_⟩
  by_cases hi : i < hs.length
  · rw [List.getElem?_append_left hi] at e1
    rw [List.getElem?_append_left (by rw [← H.1]; exact hi)] at e2
    exact H.2 i h' r' e1 e2
  · rw [List.getElem?_append_right (by omega)] at e1
    rw [List.getElem?_append_right (by rw [← H.1]; omega), ← H.1] at e2
    by_cases h0 : i - hs.length = 0
    · rw [h0] at e1 e2
      simp at e1 e2
      subst e1 e2
      exact hp
    · rw [List.getElem?_eq_none (by simp; omega)] at e1
      cases e1
theorem All2.take {α β : Type} {P : α → β → Prop} {hs : List α} {rs : List β} (H : All2 P hs rs) (j : Nat) : All2 P (hs.take j) (rs.take j) := by
  refine ⟨by rw [List.length_take, List.length_take, H.1], fun i h r e1 e2 => ?_⟩
  have hi : i < j := by
    have := (List.getElem?_eq_some_iff.1 e1).1
    rw [List.length_take] at this
    omega
  rw [List.getElem?_take, if_pos hi] at e1 e2
  exact H.2 i h r e1 e2
theorem All2.at {α β : Type} {P : α → β → Prop} {hs : List α} {rs : List β} {i : Nat} (H : All2 P hs rs) (hi : i < rs.length) : ∃ h r, hs[i]? = some h ∧ rs[i]? = some r ∧ P h r := by
  have h1 : i < hs.length := by rw [H.1]; exact hi
  exact ⟨_, _, List.getElem?_eq_getElem h1, List.getElem?_eq_getElem hi, H.2 i _ _ (List.getElem?_eq_getElem h1) (List.getElem?_eq_getElem hi)⟩
/-- a polynomial as it came in -/
def PolyI (L : Nat) (w : World) (v : Value) (rs : List Cf) : Prop := ∃ A n c hs, v = .slice A n c ∧ RdK 3 w A n c (hs.flatMap hrv) ∧ n = rs.length ∧ All2 (RawR L w) hs rs
/-- a polynomial in its own form -/
def PolyC (L : Nat) (w : World) (v : Value) (qs : List Cn) : Prop := ∃ A n c hs, v = .slice A n c ∧ RdK 3 w A n c (hs.flatMap hrv) ∧ n = qs.length ∧ All2 (CanR L w) hs qs
section
variable {L L' : Nat} {w w' : World} {v : Value} {rs : List Cf} {qs : List Cn}
theorem PolyI.below (h : PolyI L w v rs) (hb : Below w.heap.size w w') : PolyI L w' v rs := by
  obtain ⟨A, n, c, hs, rfl, h1, h2, h3⟩ := h
  exact ⟨A, n, c, hs, rfl, h1.below hb, h2, h3.imp fun _ _ e => e.below hb⟩
theorem PolyC.below (h : PolyC L w v qs) (hb : Below w.heap.size w w') : PolyC L w' v qs := by
  obtain ⟨A, n, c, hs, rfl, h1, h2, h3⟩ := h
  exact ⟨A, n, c, hs, rfl, h1.below hb, h2, h3.imp fun _ _ e => e.below hb⟩
theorem PolyI.mono (h : PolyI L w v rs) (hL : L ≤ L') : PolyI L' w v rs := by
  obtain ⟨A, n, c, hs, rfl, h1, h2, h3⟩ := h
  exact ⟨A, n, c, hs, rfl, h1, h2, h3.imp fun _ _ e => e.mono hL⟩
/-- element i's three cells -/
theorem PolyI.at {i : Nat} {A : Option Addr} {n c : Nat} (h : PolyI L w (.slice A n c) rs) (hi : i < rs.length) : ∃ b off s A1 n1 c1 A2 n2 c2 r, A = some ⟨b, off, none⟩ ∧ b < w.heap.size ∧ rs[i]? = some r ∧ Hid (s = r.1) ∧
    w.cell? ⟨b, off + i * 3, none⟩ = some (.bool s) ∧ w.cell? ⟨b, off + i * 3 + 1, none⟩ = some (.slice A1 n1 c1) ∧ w.cell? ⟨b, off + i * 3 + 2, none⟩ = some (.slice A2 n2 c2) ∧ Num w (.slice A1 n1 c1) r.2.1 L ∧ Num w (.slice A2 n2 c2) r.2.2 L := by
  obtain ⟨A', n', c', hs, e, h1, h2, h3⟩ := h
  injection e with e1 e2 e3
  subst e1 e2 e3
  obtain ⟨b, off, e, hb, hc⟩ := h1.2 (by omega)
  obtain ⟨hd, r, e1, e2, h4, h5, h6⟩ := h3.at hi
  have hf := fun j hj => flat3 hrv hrv_len hs i j hd e1 hj
  refine ⟨b, off, hd.1, hd.2.1.1, hd.2.1.2.1, hd.2.1.2.2, hd.2.2.1, hd.2.2.2.1, hd.2.2.2.2, r, e, hb, e2, h4, ?_, ?_, ?_, h5, h6⟩
  · have := hf 0 (by omega); rw [Nat.add_zero] at this; rw [hc _ (by omega), this]; rfl
  · rw [Nat.add_assoc, hc _ (by omega), hf 1 (by omega)]; rfl
  · rw [Nat.add_assoc, hc _ (by omega), hf 2 (by omega)]; rfl
theorem PolyC.at {i : Nat} {A : Option Addr} {n c : Nat} (h : PolyC L w (.slice A n c) qs) (hi : i < qs.length) : ∃ b off s A1 n1 c1 A2 n2 c2 q, A = some ⟨b, off, none⟩ ∧ b < w.heap.size ∧ qs[i]? = some q ∧ Hid (s = decide (q.1 < 0)) ∧
    w.cell? ⟨b, off + i * 3, none⟩ = some (.bool s) ∧ w.cell? ⟨b, off + i * 3 + 1, none⟩ = some (.slice A1 n1 c1) ∧ w.cell? ⟨b, off + i * 3 + 2, none⟩ = some (.slice A2 n2 c2) ∧ (Rd .u64 w A1 n1 c1 (dg W q.1.natAbs) ∧ n1 ≤ L) ∧ Rd .u64 w A2 n2 c2 (dg W q.2) ∧ n2 ≤ L := by
  obtain ⟨A', n', c', hs, e, h1, h2, h3⟩ := h
  injection e with e1 e2 e3
  subst e1 e2 e3
  obtain ⟨b, off, e, hb, hc⟩ := h1.2 (by omega)
  obtain ⟨hd, q, e1, e2, h4, h5, h6⟩ := h3.at hi
  have hf := fun j hj => flat3 hrv hrv_len hs i j hd e1 hj
  refine ⟨b, off, hd.1, hd.2.1.1, hd.2.1.2.1, hd.2.1.2.2, hd.2.2.1, hd.2.2.2.1, hd.2.2.2.2, q, e, hb, e2, h4, ?_, ?_, ?_, h5, h6⟩
  · have := hf 0 (by omega); rw [Nat.add_zero] at this; rw [hc _ (by omega), this]; rfl
  · rw [Nat.add_assoc, hc _ (by omega), hf 1 (by omega)]; rfl
  · rw [Nat.add_assoc, hc _ (by omega), hf 2 (by omega)]; rfl
end
end Go.Proofs.YtamfhmmcnlollaaGreat
namespace Go.Proofs.YtamfhmmcnlollaaGreat
open Go.RowKit
set_option linter.unusedVariables false
end Go.Proofs.YtamfhmmcnlollaaGreat
namespace Go.Proofs.YtamfhmmcnlollaaGreat
open Go.RowKit
set_option linter.unusedVariables false
theorem PolyC.take {A : Option Addr} {n c L k : Nat} {qs : List Cn} {w : World} (h : PolyC L w (.slice A n c) qs) (hk : k ≤ n) : PolyC L w (.slice A k c) (qs.take k) := by
  obtain ⟨_, _, _, hs, e, h1, h2, h3⟩ := h
  injection e with e1 e2 e3
  subst e1 e2 e3
  have h4 := h1.upto hk
  rw [flat3_take hrv hrv_len] at h4
  exact ⟨A, k, c, hs.take k, rfl, h4, by rw [List.length_take]; omega, h3.take k⟩
/-- in its own form, the call's own -/
def CanO (B L : Nat) (w : World) (h : Hr) (q : Cn) : Prop :=
  h.1 = decide (q.1 < 0) ∧ (Own .u64 41 B w h.2.1.1 h.2.1.2.1 h.2.1.2.2 (dg W q.1.natAbs) ∧ h.2.1.2.1 ≤ L) ∧ Own .u64 41 B w h.2.2.1 h.2.2.2.1 h.2.2.2.2 (dg W q.2) ∧ h.2.2.2.1 ≤ L
def PolyO (B L : Nat) (w : World) (v : Value) (qs : List Cn) : Prop := ∃ A n c hs, v = .slice A n c ∧ RowK 3 62 B w A n c (hs.flatMap hrv) ∧ n = qs.length ∧ All2 (CanO B L w) hs qs
section
variable {B B' L : Nat} {w w' : World} {h : Hr} {q : Cn} {v : Value} {qs : List Cn}
theorem CanO.below (H : CanO B L w h q) (hb : Below w.heap.size w w') : CanO B L w' h q := ⟨H.1, ⟨H.2.1.1.below hb, H.2.1.2⟩, H.2.2.1.below hb, H.2.2.2⟩
theorem CanO.mono (H : CanO B L w h q) (hB : B' ≤ B) : CanO B' L w h q := ⟨H.1, ⟨H.2.1.1.mono hB, H.2.1.2⟩, H.2.2.1.mono hB, H.2.2.2⟩
theorem CanO.grown {T : TypeId} {s m : Nat} {vs : List Value} {u : Value} (H : CanO B L w h q) (hr : w.ownsRow B T s u m vs) (hne : 41 ≠ T) (hg : w.grownBy w' u.ownBlock) : CanO B L w' h q := ⟨H.1, ⟨H.2.1.1.other hr hne hg, H.2.1.2⟩, H.2.2.1.other hr hne hg, H.2.2.2⟩
theorem PolyO.below (H : PolyO B L w v qs) (hb : Below w.heap.size w w') : PolyO B L w' v qs := by
  obtain ⟨A, n, c, hs, rfl, h1, h2, h3⟩ := H
  exact ⟨A, n, c, hs, rfl, h1.below hb, h2, h3.imp fun _ _ e => e.below hb⟩
theorem PolyO.mono (H : PolyO B L w v qs) (hB : B' ≤ B) : PolyO B' L w v qs := by
  obtain ⟨A, n, c, hs, rfl, h1, h2, h3⟩ := H
  exact ⟨A, n, c, hs, rfl, h1.mono hB, h2, h3.imp fun _ _ e => e.mono hB⟩
theorem PolyO.take {A : Option Addr} {n c k : Nat} (H : PolyO B L w (.slice A n c) qs) (hk : k ≤ n) : PolyO B L w (.slice A k c) (qs.take k) := by
  obtain ⟨_, _, _, hs, e, h1, h2, h3⟩ := H
  injection e with e1 e2 e3
  subst e1 e2 e3
  rcases Nat.eq_zero_or_pos n with h0 | h0
  · obtain rfl : k = 0 := by omega
    subst h0
    exact ⟨A, 0, c, hs.take 0, rfl, (by have h5 : hs = [] := List.eq_nil_of_length_eq_zero (by rw [h3.1]; exact h2.symm); subst h5; simpa using h1), by simp, h3.take 0⟩
  · have h4 := h1.upto hk h0
    rw [flat3_take hrv hrv_len] at h4
    exact ⟨A, k, c, hs.take k, rfl, h4, by rw [List.length_take]; omega, h3.take k⟩
end
theorem take_snoc {α : Type} {l : List α} {i : Nat} {x : α} (h : l[i]? = some x) : l.take (i + 1) = l.take i ++ [x] := by
  obtain ⟨hi, e⟩ := List.getElem?_eq_some_iff.1 h
  rw [List.take_succ_eq_append_getElem hi, e]
/-- the loops' relation: i coefficients are in their own form -/
def NI (w : World) (L : Nat) (rs : List Cf) (i : Nat) (A' : Option Addr) (c' : Nat) (wr : World) : Prop :=
  (∃ hs : List Hr, RowK 3 62 w.heap.size wr A' i c' (hs.flatMap hrv) ∧ All2 (CanO w.heap.size L wr) hs ((rs.take i).map nrm)) ∧ (∀ r ∈ rs.take i, 0 < r.2.2) ∧ Below w.heap.size w wr
theorem NI.below {w wr w' : World} {L i c' : Nat} {rs : List Cf} {A' : Option Addr} (h : NI w L rs i A' c' wr) (hb : Below wr.heap.size wr w') : NI w L rs i A' c' w' := by
  obtain ⟨⟨hs, h1, h2⟩, h3, h4⟩ := h
  exact ⟨⟨hs, h1.below hb, h2.imp fun _ _ e => e.below hb⟩, h3, bt h4 hb⟩
theorem NI.grown {w w' : World} {L i c2 : Nat} {rs : List Cf} {A2 : Option Addr} {hs : List Hr} {h : Hr} {r : Cf} (ho : RowK 3 62 w.heap.size w' A2 (i + 1) c2 (hs.flatMap hrv ++ hrv h)) (h2 : All2 (CanO w.heap.size L w') hs ((rs.take i).map nrm)) (hc : CanO w.heap.size L w' h (nrm r)) (h3 : ∀ r ∈ rs.take i, 0 < r.2.2) (hr : rs[i]? = some r) (hp : 0 < r.2.2) (hb : Below w.heap.size w w') : NI w L rs (i + 1) A2 c2 w' := by
  refine ⟨⟨hs ++ [h], by simpa using ho, ?_⟩, ?_, hb⟩
  · rw [take_snoc hr, List.map_append]
    exact h2.snoc hc
  · rw [take_snoc hr]
    intro r' hm
    rcases List.mem_append.1 hm with hm | hm
    · exact h3 r' hm
    · simp at hm; subst hm; exact hp
end Go.Proofs.YtamfhmmcnlollaaGreat
namespace Go.Proofs.YtamfhmmcnlollaaGreat
open Go.RowKit
set_option linter.unusedVariables false
theorem PolyI.len {A : Option Addr} {n c L : Nat} {rs : List Cf} {w : World} (h : PolyI L w (.slice A n c) rs) : n = rs.length := by
  obtain ⟨_, _, _, hs, e, h1, h2, _⟩ := h
  injection e with e1 e2 e3
  subst e1 e2 e3
  exact h2
theorem PolyO.len {A : Option Addr} {n c L B : Nat} {qs : List Cn} {w : World} (h : PolyO B L w (.slice A n c) qs) : n = qs.length ∧ n ≤ c := by
  obtain ⟨_, _, _, hs, e, h1, h2, _⟩ := h
  injection e with e1 e2 e3
  subst e1 e2 e3
  exact ⟨h2, h1.cap⟩
end Go.Proofs.YtamfhmmcnlollaaGreat
namespace Go.Proofs.YtamfhmmcnlollaaGreat
open Go.RowKit
set_option linter.unusedVariables false
end Go.Proofs.YtamfhmmcnlollaaGreat
namespace Go.Proofs.YtamfhmmcnlollaaGreat
open Go.RowKit
set_option linter.unusedVariables false
/-- as it came in, the call's own -/
def RawO (B L : Nat) (w : World) (h : Hr) (r : Cf) : Prop :=
  h.1 = r.1 ∧ ((∃ xs, Own .u64 41 B w h.2.1.1 h.2.1.2.1 h.2.1.2.2 xs ∧ All W xs ∧ val W xs = r.2.1) ∧ h.2.1.2.1 ≤ L) ∧ (∃ xs, Own .u64 41 B w h.2.2.1 h.2.2.2.1 h.2.2.2.2 xs ∧ All W xs ∧ val W xs = r.2.2) ∧ h.2.2.2.1 ≤ L
def PolyW (B L : Nat) (w : World) (v : Value) (rs : List Cf) : Prop := ∃ A n c hs, v = .slice A n c ∧ RowK 3 62 B w A n c (hs.flatMap hrv) ∧ n = rs.length ∧ All2 (RawO B L w) hs rs
section
variable {B B' L : Nat} {w w' : World} {h : Hr} {r : Cf} {v : Value} {rs : List Cf}
theorem RawO.below (H : RawO B L w h r) (hb : Below w.heap.size w w') : RawO B L w' h r := by
  obtain ⟨h1, ⟨⟨xs, h2, h3⟩, h5⟩, ⟨ys, h6, h7⟩, h9⟩ := H
  exact ⟨h1, ⟨⟨xs, h2.below hb, h3⟩, h5⟩, ⟨ys, h6.below hb, h7⟩, h9⟩
theorem RawO.mono (H : RawO B L w h r) (hB : B' ≤ B) : RawO B' L w h r := by
  obtain ⟨h1, ⟨⟨xs, h2, h3⟩, h5⟩, ⟨ys, h6, h7⟩, h9⟩ := H
  exact ⟨h1, ⟨⟨xs, h2.mono hB, h3⟩, h5⟩, ⟨ys, h6.mono hB, h7⟩, h9⟩
theorem RawO.grown {T : TypeId} {s m : Nat} {vs : List Value} {u : Value} (H : RawO B L w h r) (hr : w.ownsRow B T s u m vs) (hne : 41 ≠ T) (hg : w.grownBy w' u.ownBlock) : RawO B L w' h r := by
  obtain ⟨h1, ⟨⟨xs, h2, h3⟩, h5⟩, ⟨ys, h6, h7⟩, h9⟩ := H
  exact ⟨h1, ⟨⟨xs, h2.other hr hne hg, h3⟩, h5⟩, ⟨ys, h6.other hr hne hg, h7⟩, h9⟩
theorem PolyW.below (H : PolyW B L w v rs) (hb : Below w.heap.size w w') : PolyW B L w' v rs := by
  obtain ⟨A, n, c, hs, rfl, h1, h2, h3⟩ := H
  exact ⟨A, n, c, hs, rfl, h1.below hb, h2, h3.imp fun _ _ e => e.below hb⟩
end
def CI (w : World) (L : Nat) (rs : List Cf) (i : Nat) (A' : Option Addr) (c' : Nat) (wr : World) : Prop :=
  (∃ hs : List Hr, RowK 3 62 w.heap.size wr A' i c' (hs.flatMap hrv) ∧ All2 (RawO w.heap.size L wr) hs (rs.take i)) ∧ Below w.heap.size w wr
theorem CI.below {w wr w' : World} {L i c' : Nat} {rs : List Cf} {A' : Option Addr} (h : CI w L rs i A' c' wr) (hb : Below wr.heap.size wr w') : CI w L rs i A' c' w' := by
  obtain ⟨⟨hs, h1, h2⟩, h4⟩ := h
  exact ⟨⟨hs, h1.below hb, h2.imp fun _ _ e => e.below hb⟩, bt h4 hb⟩
theorem CI.grown {w w' : World} {L i c2 : Nat} {rs : List Cf} {A2 : Option Addr} {hs : List Hr} {h : Hr} {r : Cf} (ho : RowK 3 62 w.heap.size w' A2 (i + 1) c2 (hs.flatMap hrv ++ hrv h)) (h2 : All2 (RawO w.heap.size L w') hs (rs.take i)) (hc : RawO w.heap.size L w' h r) (hr : rs[i]? = some r) (hb : Below w.heap.size w w') : CI w L rs (i + 1) A2 c2 w' := by
  refine ⟨⟨hs ++ [h], by simpa using ho, ?_⟩, hb⟩
  rw [take_snoc hr]
  exact h2.snoc hc
theorem Grow.any {row : Option Nat} {a b : World} (h : Grow none a b) : Grow row a b := ⟨h.os, h.tape, h.output, h.size, fun k hk _ => h.block k hk (by simp)⟩
end Go.Proofs.YtamfhmmcnlollaaGreat
