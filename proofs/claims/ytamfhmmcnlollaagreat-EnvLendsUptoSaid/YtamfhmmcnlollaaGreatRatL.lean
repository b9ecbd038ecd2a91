/-
  Rows of structs: k cells an element. No program here. Rationals and polynomials in numbers; what they look like in memory. No program here. zz.of, Norm, Nat, Sign, Bits; qq.Check, reduced, Norm, Sign; surdref05.Sign; surdref08.Ok, R, S. qq.Norm; surdref05.Sign, surdref08.Ok, S; qpoly.trim, Norm; surdref10.Good, Form. surdref10.Good, Form. zz.Bits, surdref26.bits; env.Fits, surdref26.Fits. surdlaw26.copyNat, copyPoly.
-/
import Derived.Test.YtamfhmmcnlollaaGreatRows2
import Derived.Test.YtamfhmmcnlollaaGreatExs
import Derived.Test.YtamfhmmcnlollaaGreatApart
import Derived.Test.YtamfhmmcnlollaaGreatIntG
import Derived.Test.YtamfhmmcnlollaaGreatNatB
namespace Go.Proofs.YtamfhmmcnlollaaGreat
open Go.RowKit
set_option linter.unusedVariables false

/-- the type's row in the table: an element of k cells -/
def ElemK (P : Program) (TT T : TypeId) (z : Value) (k bytes : Nat) : Prop :=
  (P.underlying TT = some (.slice T) ∧ (P.info? T).map (fun i => (i.zero, i.size, i.bytes)) = some (some z, k, bytes)) ∧ z.cells.size = k ∧ 0 < k ∧ bytes ≤ 64
/-- a slice whose elements are k cells each reads as a list of cells -/
def RdK (k : Nat) (w : World) (A : Option Addr) (n c : Nat) (vs : List Value) : Prop :=
  (vs.length = n * k ∧ n ≤ c) ∧ (0 < n → ∃ b off, A = some ⟨b, off, none⟩ ∧ b < w.heap.size ∧ ∀ i, i < n * k → w.cell? ⟨b, off + i, none⟩ = vs[i]?)
/-- a row of the call's own -/
def RowK (k : Nat) (T : TypeId) (B : Nat) (w : World) (A : Option Addr) (n c : Nat) (vs : List Value) : Prop := w.ownsRow B T k (.slice A n c) n vs
section
variable {k : Nat} {T TT : TypeId} {B n c m c2 bytes : Nat} {w w' : World} {A A2 : Option Addr} {vs us : List Value} {P : Program} {z : Value}
theorem RdK.below (h : RdK k w A n c vs) (hb : Below w.heap.size w w') : RdK k w' A n c vs :=
  ⟨h.1, fun h0 => by
    obtain ⟨b, off, e, h1, hc⟩ := h.2 h0
    exact ⟨b, off, e, Nat.lt_of_lt_of_le h1 hb.size, fun i hi => (hb.cell (p := ⟨b, off + i, none⟩) h1).trans (hc i hi)⟩⟩
theorem RdK.ex {S : Nat → Prop} (h : RdK k w A n c vs) (hx : Ex S w w') (hs : ∀ a, A = some a → ¬ S a.block) : RdK k w' A n c vs :=
  ⟨h.1, fun h0 => by
    obtain ⟨b, off, e, h1, hc⟩ := h.2 h0
    exact ⟨b, off, e, Nat.lt_of_lt_of_le h1 hx.size, fun i hi => by rw [← hc i hi]; exact World.cell?_of_block (w := w) (hx.block b h1 (hs _ e))⟩⟩
theorem RdK.nil : RdK k w none 0 0 [] := ⟨⟨by simp, Nat.le_refl _⟩, fun h => absurd h (Nat.lt_irrefl 0)⟩
theorem RowK.rd (h : RowK k T B w A n c vs) : RdK k w A n c vs := by
  have hl : vs.length = n * k := h.1
  rcases h.2 with ⟨hv, hn⟩ | ⟨g, cap, cur, hv, hg, hh, hnc, hcm, hcs, ht⟩
  · injection hv with e1 e2 e3
    subst e3
    exact ⟨⟨hl, by omega⟩, fun h0 => absurd h0 (by omega)⟩
  · injection hv with e1 e2 e3
    subst e1; subst e3
    exact ⟨⟨hl, hnc⟩, fun h0 => ⟨g, 0, rfl, (Array.getElem?_eq_some_iff.1 hh).1, fun i hi => by rw [Nat.zero_add]; exact World.ownsRow.cellAt h i hi⟩⟩
theorem RowK.nil : RowK k T B w none 0 0 [] := World.ownsRow_nil _ _ _ _
theorem RowK.below (h : RowK k T B w A n c vs) (hb : Below w.heap.size w w') : RowK k T B w' A n c vs := ownsRow_below h hb
theorem RowK.len (h : RowK k T B w A n c vs) : vs.length = n * k := h.1
theorem RowK.cap (h : RowK k T B w A n c vs) : n ≤ c := h.rd.1.2
theorem RowK.mono {B' : Nat} (h : RowK k T B w A n c vs) (hB : B' ≤ B) : RowK k T B' w A n c vs := by
  refine ⟨h.1, ?_⟩
  rcases h.2 with h3 | ⟨g, cap, cur, hv, hg, r⟩
  · exact .inl h3
  · exact .inr ⟨g, cap, cur, hv, by omega, r⟩
theorem RowK.lit {b : Nat} (w : World) (m : Nat) (vs : List Value) (hb : b = w.heap.size) (hz : vs.length = m * k) (hm : m ≤ 1000) (hB : B ≤ w.heap.size) : RowK k T B (w.alloc (.cells vs.toArray T)) (some ⟨b, 0, none⟩) m m vs := by
  subst hb
  have := World.ownsRow_lit (base := B) (e := T) (size := k) w vs.toArray m hB (by simp only [maxLen]; omega) (by simpa using hz)
  simpa [RowK] using this
theorem RowK.form (h : RowK k T B w A n c vs) (hn : 0 < n) : ∃ g, A = some ⟨g, 0, none⟩ ∧ B ≤ g ∧ g < w.heap.size := by
  obtain ⟨g, cap, hv, hb, hlt⟩ := World.ownsRow.form h hn
  injection hv with hA _ _
  exact ⟨g, hA, hb, hlt⟩
theorem RowK.cell {g i : Nat} (h : RowK k T B w (some ⟨g, 0, none⟩) n c vs) (hi : i < n * k) : w.cell? ⟨g, i, none⟩ = vs[i]? := World.ownsRow.cellAt h i hi
theorem RowK.frozen {g i : Nat} (h : RowK k T B w (some ⟨g, 0, none⟩) n c vs) : w.frozen? ⟨g, i, none⟩ = false := World.ownsRow.frozenAt h i
theorem RowK.stored {g i : Nat} {u : Value} (h : RowK k T B w (some ⟨g, 0, none⟩) n c vs) : RowK k T B (w.setCell ⟨g, i, none⟩ u) (some ⟨g, 0, none⟩) n c (vs.set i u) := (World.ownsRow.stored (j := i) (u := u) h).1
theorem RowK.lies (h : RowK k T B w A n c vs) : Lies A B w.heap.size := by
  intro a e
  subst e
  rcases h.2 with ⟨hv, hn⟩ | ⟨g, cap, cur, hv, hg, hh, _⟩
  · cases hv
  · injection hv with e1 _ _
    injection e1 with e1
    subst e1
    exact ⟨hg, (Array.getElem?_eq_some_iff.1 hh).1⟩
/-- the first elements of a row of its own -/
theorem RowK.upto {j : Nat} (h : RowK k T B w A n c vs) (hj : j ≤ n) (hn : 0 < n) : RowK k T B w A j c (vs.take (j * k)) := by
  rcases h.2 with ⟨hv, hn⟩ | ⟨g, cap, cur, hv, hg, hh, hnc, hcm, hcs, ht⟩
  · omega
  · injection hv with e1 e2 e3
    subst e1; subst e3
    have hjk : j * k ≤ n * k := Nat.mul_le_mul_right _ hj
    refine ⟨by rw [List.length_take, h.1]; omega, .inr ⟨g, c, cur, rfl, hg, hh, by omega, hcm, hcs, ?_⟩⟩
    rw [← ht, List.take_take]
    congr 1
    omega
theorem RdK.upto {j : Nat} (h : RdK k w A n c vs) (hj : j ≤ n) : RdK k w A j c (vs.take (j * k)) := by
  have hjk : j * k ≤ n * k := Nat.mul_le_mul_right _ hj
  refine ⟨⟨by rw [List.length_take, h.1.1]; omega, by have := h.1.2; omega⟩, fun hn => ?_⟩
  obtain ⟨b, off, e, hlt, hc⟩ := h.2 (by omega)
  refine ⟨b, off, e, hlt, fun i hi => ?_⟩
  rw [hc i (by omega), List.getElem?_take, if_pos hi]
/-- append of elements of k cells -/
theorem run_appK (ty : TypeId) (he : ElemK P TT T z k bytes) (hown : RowK k T B w A n c vs) (hr : RdK k w A2 m c2 us) (hv : ∀ u ∈ us, u.oneCell' = true) (hm : 0 < m) (hlen : n + m ≤ 1099511627776) (hB : B ≤ w.heap.size) :
    ∃ A' c' w', (Builtin.append_ #[TT, TT] ty #[.slice A n c, .slice A2 m c2]).run P w = .ok (.slice A' (n + m) c') w' ∧ RowK k T B w' A' (n + m) c' (vs ++ us) ∧ Below B w w' ∧ w.grownBy w' (Value.slice A n c).ownBlock := by
  obtain ⟨⟨hT, hinfo⟩, hzs, hk, hby⟩ := he
  obtain ⟨i, hi, hz, hs1, hb⟩ := info_parts hinfo
  obtain ⟨b, off, e, _, hc⟩ := hr.2 hm
  subst e
  obtain ⟨v', w', hrun, h1, h2, _, _⟩ := run_append_own_at (P := P) w B TT ty T i z k bytes hT hi hz hs1 hb hzs hk _ n _ hown ⟨b, off, none⟩ m c2 us (by rw [hr.1.1]) (by
    intro j u hj
    rw [addo]
    have hjl : j < us.length := (List.getElem?_eq_some_iff.1 hj).1
    rw [hr.1.1] at hjl
    rw [hc j hjl, hj]) hv (by simp only [maxLen]; omega) (by
    calc (n + m) * bytes ≤ 1099511627776 * 64 := Nat.mul_le_mul hlen hby
      _ ≤ 140737488355328 := by decide) hB
  have hform : ∃ A' c', v' = .slice A' (n + m) c' := by
    rcases h1.2 with ⟨h3, h4⟩ | ⟨g, cap, cur, hv, _⟩
    · omega
    · exact ⟨_, _, hv⟩
  obtain ⟨A', c', rfl⟩ := hform
  exact ⟨A', c', w', hrun, h1, (Below.refl _ _).grown h2 hB (fun g hg' => (World.ownsRow.lt hown g hg').1), h2⟩
theorem wpList_appK {ops : Array Oper} {rest : List Oper} {o : Oper} {a : Act} {Q : Exit → Act → World → Prop} (hgd : o.guard = none) (s x : Operand)
    (ho : o.op = .call { callee := .builtin .append, args := #[s, x], argTypes := #[TT, TT] }) (he : ElemK P TT T z k bytes)
    (hs : a.eval s = .slice A n c) (hx : a.eval x = .slice A2 m c2) (hown : RowK k T B w A n c vs) (hr : RdK k w A2 m c2 us) (hv : ∀ u ∈ us, u.oneCell' = true) (hm : 0 < m) (hlen : n + m ≤ 1099511627776) (hB : B ≤ w.heap.size)
    (h : ∀ A' c' w', RowK k T B w' A' (n + m) c' (vs ++ us) → Below B w w' → w.grownBy w' (Value.slice A n c).ownBlock → wpList P ops Q rest (a.put o.dst (.slice A' (n + m) c')) w') : wpList P ops Q (o :: rest) a w := by
  refine wpList_plain hgd fun K hK => ?_
  obtain ⟨A', c', w', hrun, h2, h3, h4⟩ := run_appK (P := P) o.type he hown hr hv hm hlen hB
  unfold Oper.wp execOp
  simp only [ho, resolve, invoke, builtin, Sem.run_bind, Sem.run_pure, Result.andThen_ok, List.map_toArray, List.map_cons, List.map_nil, hs, hx, hrun]
  exact hK _ _ (h A' c' w' h2 h3 h4)
theorem flt_appK {R R1 : World → World → Prop} {G : Nat → Value → World → Prop} {l : List Oper} {Q : Exit → Act → World → Prop} {i : Nat} {o : Oper} {rest : List (Nat × Nat)} {a : Act} (s x : Operand) (ho' : opAt l i = some o) (hg : o.guard = none)
    (hop : o.op = .call { callee := .builtin .append, args := #[s, x], argTypes := #[TT, TT] }) (he : ElemK P TT T z k bytes)
    (hs : a.eval s = .slice A n c) (hx : a.eval x = .slice A2 m c2) (hown : RowK k T B w A n c vs) (hr : RdK k w A2 m c2 us) (hv : ∀ u ∈ us, u.oneCell' = true) (hm : 0 < m) (hlen : n + m ≤ 1099511627776) (hB : B ≤ w.heap.size)
    (hR : ∀ w', Below B w w' → w.grownBy w' (Value.slice A n c).ownBlock → R w w')
    (h : ∀ A' c' w', RowK k T B w' A' (n + m) c' (vs ++ us) → Below B w w' → w.grownBy w' (Value.slice A n c).ownBlock → wpF P l.toArray Q R R1 rest G (a.put o.dst (.slice A' (n + m) c')) w') : wpF P l.toArray Q R R1 ((3, i) :: rest) G a w := by
  refine flt_actX ho' fun K hK => ?_
  rw [if_pos (by simp [Region.wanted, hg])]
  obtain ⟨A', c', w', hrun, h2, h3, h4⟩ := run_appK (P := P) o.type he hown hr hv hm hlen hB
  unfold Oper.wp execOp
  simp only [hop, resolve, invoke, builtin, Sem.run_bind, Sem.run_pure, Result.andThen_ok, List.map_toArray, List.map_cons, List.map_nil, hs, hx, hrun]
  exact hK _ _ ⟨hR _ h3 h4, h A' c' w' h2 h3 h4⟩
end
/-- the cells of element j of a list of elements of 3 cells -/
theorem flat3 {α : Type} (f : α → List Value) (hf : ∀ x, (f x).length = 3) : ∀ (l : List α) (j i : Nat) (x : α), l[j]? = some x → i < 3 → (l.flatMap f)[j * 3 + i]? = (f x)[i]?
  | [], j, i, x, h, _ => by simp at h
  | y :: l, 0, i, x, h, hi => by
    simp at h; subst h
    rw [List.flatMap_cons, Nat.zero_mul, Nat.zero_add, List.getElem?_append_left (by rw [hf]; exact hi)]
  | y :: l, j + 1, i, x, h, hi => by
    rw [List.flatMap_cons, List.getElem?_append_right (by rw [hf]; omega), hf]
    have := flat3 f hf l j i x (by simpa using h) hi
    rw [← this]
    congr 1
    omega
theorem flat3_len {α : Type} (f : α → List Value) (hf : ∀ x, (f x).length = 3) (l : List α) : (l.flatMap f).length = l.length * 3 := by
  induction l with
  | nil => rfl
  | cons y l ih => rw [List.flatMap_cons, List.length_append, hf, ih, List.length_cons]; omega
theorem flat3_take {α : Type} (f : α → List Value) (hf : ∀ x, (f x).length = 3) : ∀ (l : List α) (j : Nat), (l.flatMap f).take (j * 3) = (l.take j).flatMap f
  | [], j => by simp
  | y :: l, 0 => by simp
  | y :: l, j + 1 => by
    rw [List.flatMap_cons, List.take_succ_cons, List.flatMap_cons, List.take_append, hf, List.take_of_length_le (by rw [hf]; omega)]
    congr 1
    rw [← flat3_take f hf l j]
    congr 1
    omega
theorem flat2 {α : Type} (f : α → List Value) (hf : ∀ x, (f x).length = 2) : ∀ (l : List α) (j i : Nat) (x : α), l[j]? = some x → i < 2 → (l.flatMap f)[j * 2 + i]? = (f x)[i]?
  | [], j, i, x, h, _ => by simp at h
  | y :: l, 0, i, x, h, hi => by
    simp at h; subst h
    rw [List.flatMap_cons, Nat.zero_mul, Nat.zero_add, List.getElem?_append_left (by rw [hf]; exact hi)]
  | y :: l, j + 1, i, x, h, hi => by
    rw [List.flatMap_cons, List.getElem?_append_right (by rw [hf]; omega), hf]
    have := flat2 f hf l j i x (by simpa using h) hi
    rw [← this]
    congr 1
    omega
theorem flat2_len {α : Type} (f : α → List Value) (hf : ∀ x, (f x).length = 2) (l : List α) : (l.flatMap f).length = l.length * 2 := by
  induction l with
  | nil => rfl
  | cons y l ih => rw [List.flatMap_cons, List.length_append, hf, ih, List.length_cons]; omega
end Go.Proofs.YtamfhmmcnlollaaGreat
namespace Go.Proofs.YtamfhmmcnlollaaGreat
open Go.RowKit
set_option linter.unusedVariables false

/-- a coefficient as it comes in: the sign, the numerator, the denominator -/
abbrev Cf := Bool × Nat × Nat
/-- in its own form: the numerator with its sign, the denominator -/
abbrev Cn := Int × Nat
def nrm (r : Cf) : Cn := (sg r.1 (r.2.1 / Nat.gcd r.2.1 r.2.2), r.2.2 / Nat.gcd r.2.1 r.2.2)
/-- how many of n are left when those behind for which z is true are taken off -/
def tlen (z : Nat → Bool) : Nat → Nat
  | 0 => 0
  | n + 1 => if z n then tlen z n else n + 1
theorem tlen_le (z : Nat → Bool) : ∀ n, tlen z n ≤ n
  | 0 => Nat.le_refl _
  | n + 1 => by
    unfold tlen
    have := tlen_le z n
    split <;> omega
def zat (qs : List Cn) (i : Nat) : Bool := decide (((qs[i]?).getD (0, 0)).1 = 0)
def ptrim (qs : List Cn) : List Cn := qs.take (tlen (zat qs) qs.length)
/-- the polynomial in its own form -/
def pn (rs : List Cf) : List Cn := ptrim (rs.map nrm)
theorem pn_len (rs : List Cf) : (pn rs).length ≤ rs.length := by
  unfold pn ptrim
  rw [List.length_take, List.length_map]
  omega

/-- a rational's header: the sign, the numerator's slice, the denominator's -/
abbrev Hr := Bool × Sh × Sh
def hrv (h : Hr) : List Value := [.bool h.1, shv h.2.1, shv h.2.2]
theorem hrv_len (h : Hr) : (hrv h).length = 3 := rfl
/-- two lists in places of their own -/
def SepA (a b : Option Addr) : Prop := ∀ x y, a = some x → b = some y → x.block ≠ y.block
theorem SepA.symm {a b : Option Addr} (h : SepA a b) : SepA b a := fun x y e1 e2 e => h y x e2 e1 e.symm
def hnums (h : Hr) : List (Option Addr) := [h.2.1.1, h.2.2.1]
/-- all numbers in places of their own -/
def AptH (hs : List Hr) : Prop := (hs.flatMap hnums).Pairwise SepA
/-- every block of it is of S -/
def InS (S : Nat → Prop) (A : Option Addr) (hs : List Hr) : Prop := (∀ a, A = some a → S a.block) ∧ ∀ h ∈ hs, ∀ o ∈ hnums h, ∀ a, o = some a → S a.block
theorem AptH.nil : AptH [] := List.Pairwise.nil
theorem AptH.snoc {hs : List Hr} {h : Hr} (H : AptH hs) (h1 : SepA h.2.1.1 h.2.2.1) (h2 : ∀ g ∈ hs, ∀ o ∈ hnums g, SepA o h.2.1.1 ∧ SepA o h.2.2.1) : AptH (hs ++ [h]) := by
  unfold AptH
  rw [List.flatMap_append, List.pairwise_append]
  refine ⟨H, by simp [hnums, h1], fun a ha b hb => ?_⟩
  obtain ⟨g, hg, ho⟩ := List.mem_flatMap.1 ha
  have h3 := h2 g hg a ho
  simp [hnums] at hb
  rcases hb with rfl | rfl
  · exact h3.1
  · exact h3.2
theorem AptH.take {hs : List Hr} (H : AptH hs) (k : Nat) : AptH (hs.take k) := by
  unfold AptH at *
  have e : hs.flatMap hnums = (hs.take k).flatMap hnums ++ (hs.drop k).flatMap hnums := by rw [← List.flatMap_append, List.take_append_drop]
  rw [e] at H
  exact (List.pairwise_append.1 H).1
theorem InS.take {S : Nat → Prop} {A : Option Addr} {hs : List Hr} (H : InS S A hs) (k : Nat) : InS S A (hs.take k) := ⟨H.1, fun h hh => H.2 h (List.mem_of_mem_take hh)⟩
theorem InS.mono {S T : Nat → Prop} {A : Option Addr} {hs : List Hr} (H : InS S A hs) (hST : ∀ b, S b → T b) : InS T A hs := ⟨fun a e => hST _ (H.1 a e), fun h hh o ho a e => hST _ (H.2 h hh o ho a e)⟩
theorem InS.true {A : Option Addr} {hs : List Hr} : InS (fun _ => True) A hs := ⟨fun _ _ => trivial, fun _ _ _ _ _ _ => trivial⟩
/-- what came in -/
def RawR (L : Nat) (w : World) (h : Hr) (r : Cf) : Prop := h.1 = r.1 ∧ Num w (shv h.2.1) r.2.1 L ∧ Num w (shv h.2.2) r.2.2 L
/-- in its own form -/
def CanR (L : Nat) (w : World) (h : Hr) (q : Cn) : Prop :=
  h.1 = decide (q.1 < 0) ∧ (Rd .u64 w h.2.1.1 h.2.1.2.1 h.2.1.2.2 (dg W q.1.natAbs) ∧ h.2.1.2.1 ≤ L) ∧ Rd .u64 w h.2.2.1 h.2.2.2.1 h.2.2.2.2 (dg W q.2) ∧ h.2.2.2.1 ≤ L
theorem RawR.below {L : Nat} {w w' : World} {h : Hr} {r : Cf} (H : RawR L w h r) (hb : Below w.heap.size w w') : RawR L w' h r := ⟨H.1, H.2.1.below hb, H.2.2.below hb⟩
theorem CanR.below {L : Nat} {w w' : World} {h : Hr} {r : Cn} (H : CanR L w h r) (hb : Below w.heap.size w w') : CanR L w' h r := ⟨H.1, ⟨H.2.1.1.below hb, H.2.1.2⟩, H.2.2.1.below hb, H.2.2.2⟩
theorem RawR.mono {L L' : Nat} {w : World} {h : Hr} {r : Cf} (H : RawR L w h r) (hL : L ≤ L') : RawR L' w h r := ⟨H.1, H.2.1.mono hL, H.2.2.mono hL⟩
theorem CanR.raw {L : Nat} {w : World} {h : Hr} {q : Cn} (H : CanR L w h q) : RawR L w h (h.1, q.1.natAbs, q.2) :=
  ⟨rfl, ⟨_, _, _, _, rfl, H.2.1.1, dg_all W_gt _, dg_val W_gt _, H.2.1.2⟩, ⟨_, _, _, _, rfl, H.2.2.1, dg_all W_gt _, dg_val W_gt _, H.2.2.2⟩⟩
/-- a list of headers and what they hold -/
def All2 {α β : Type} (P : α → β → Prop) (hs : List α) (rs : List β) : Prop := hs.length = rs.length ∧ ∀ (i : Nat) (h : α) (r : β), hs[i]? = some h → rs[i]? = some r → P h r
theorem All2.nil {α β : Type} {P : α → β → Prop} : All2 P [] [] := ⟨rfl, fun i h r e => by simp at e⟩
theorem All2.imp {α β : Type} {P Q : α → β → Prop} {hs : List α} {rs : List β} (H : All2 P hs rs) (f : ∀ h r, P h r → Q h r) : All2 Q hs rs := ⟨H.1, fun i h r e1 e2 => f h r (H.2 i h r e1 e2)⟩
theorem All2.snoc {α β : Type} {P : α → β → Prop} {hs : List α} {rs : List β} {h : α} {r : β} (H : All2 P hs rs) (hp : P h r) : All2 P (hs ++ [h]) (rs ++ [r]) := by
  refine ⟨by simp [H.1], fun i h' r' e1 e2 => ?_⟩
  by_cases hi : i < hs.length
  · rw [List.getElem?_append_left hi] at e1
    rw [List.getElem?_append_left (by rw [← H.1]; exact hi)] at e2
    exact H.2 i h' r' e1 e2
  · rw [List.getElem?_append_right (by omega)] at e1
    rw [List.getElem?_append_right (by rw [← H.1]; omega), ← H.1] at e2
    by_cases h0 : i - hs.length = 0
    · rw [h0] at e1 e2
      simp at e1 e2
      subst e1 e2
      exact hp
    · rw [List.getElem?_eq_none (by simp; omega)] at e1
      cases e1
theorem All2.take {α β : Type} {P : α → β → Prop} {hs : List α} {rs : List β} (H : All2 P hs rs) (j : Nat) : All2 P (hs.take j) (rs.take j) := by
  refine ⟨by rw [List.length_take, List.length_take, H.1], fun i h r e1 e2 => ?_⟩
  have hi : i < j := by
    have := (List.getElem?_eq_some_iff.1 e1).1
    rw [List.length_take] at this
    omega
  rw [List.getElem?_take, if_pos hi] at e1 e2
  exact H.2 i h r e1 e2
theorem All2.at {α β : Type} {P : α → β → Prop} {hs : List α} {rs : List β} {i : Nat} (H : All2 P hs rs) (hi : i < rs.length) : ∃ h r, hs[i]? = some h ∧ rs[i]? = some r ∧ P h r := by
  have h1 : i < hs.length := by rw [H.1]; exact hi
  exact ⟨_, _, List.getElem?_eq_getElem h1, List.getElem?_eq_getElem hi, H.2 i _ _ (List.getElem?_eq_getElem h1) (List.getElem?_eq_getElem hi)⟩
/-- a polynomial as it came in -/
def PolyI (L : Nat) (w : World) (v : Value) (rs : List Cf) : Prop := ∃ A n c hs, v = .slice A n c ∧ RdK 3 w A n c (hs.flatMap hrv) ∧ n = rs.length ∧ All2 (RawR L w) hs rs
/-- a polynomial in its own form -/
def PolyC (L : Nat) (w : World) (v : Value) (qs : List Cn) : Prop := ∃ A n c hs, v = .slice A n c ∧ RdK 3 w A n c (hs.flatMap hrv) ∧ n = qs.length ∧ All2 (CanR L w) hs qs
section
variable {L L' : Nat} {w w' : World} {v : Value} {rs : List Cf} {qs : List Cn}
theorem PolyI.below (h : PolyI L w v rs) (hb : Below w.heap.size w w') : PolyI L w' v rs := by
  obtain ⟨A, n, c, hs, rfl, h1, h2, h3⟩ := h
  exact ⟨A, n, c, hs, rfl, h1.below hb, h2, h3.imp fun _ _ e => e.below hb⟩
theorem PolyC.below (h : PolyC L w v qs) (hb : Below w.heap.size w w') : PolyC L w' v qs := by
  obtain ⟨A, n, c, hs, rfl, h1, h2, h3⟩ := h
  exact ⟨A, n, c, hs, rfl, h1.below hb, h2, h3.imp fun _ _ e => e.below hb⟩
theorem PolyI.mono (h : PolyI L w v rs) (hL : L ≤ L') : PolyI L' w v rs := by
  obtain ⟨A, n, c, hs, rfl, h1, h2, h3⟩ := h
  exact ⟨A, n, c, hs, rfl, h1, h2, h3.imp fun _ _ e => e.mono hL⟩
/-- a coefficient in its own form as one that comes in -/
def cfo (q : Cn) : Cf := (decide (q.1 < 0), q.1.natAbs, q.2)
theorem PolyC.inp (h : PolyC L w v qs) : PolyI L w v (qs.map cfo) := by
  obtain ⟨A, n, c, hs, rfl, h1, h2, h3⟩ := h
  refine ⟨A, n, c, hs, rfl, h1, by rw [List.length_map]; exact h2, by rw [List.length_map]; exact h3.1, fun i hd r e1 e2 => ?_⟩
  rw [List.getElem?_map] at e2
  obtain ⟨q, e3, e4⟩ := Option.map_eq_some_iff.1 e2
  have h4 := h3.2 i hd q e1 e3
  subst e4
  have h5 := h4.raw
  unfold cfo
  rw [← h4.1]
  exact h5
/-- element i's three cells -/
theorem PolyI.at {i : Nat} {A : Option Addr} {n c : Nat} (h : PolyI L w (.slice A n c) rs) (hi : i < rs.length) : ∃ b off s A1 n1 c1 A2 n2 c2 r, A = some ⟨b, off, none⟩ ∧ b < w.heap.size ∧ rs[i]? = some r ∧ Hid (s = r.1) ∧
    w.cell? ⟨b, off + i * 3, none⟩ = some (.bool s) ∧ w.cell? ⟨b, off + i * 3 + 1, none⟩ = some (.slice A1 n1 c1) ∧ w.cell? ⟨b, off + i * 3 + 2, none⟩ = some (.slice A2 n2 c2) ∧ Num w (.slice A1 n1 c1) r.2.1 L ∧ Num w (.slice A2 n2 c2) r.2.2 L := by
  obtain ⟨A', n', c', hs, e, h1, h2, h3⟩ := h
  injection e with e1 e2 e3
  subst e1 e2 e3
  obtain ⟨b, off, e, hb, hc⟩ := h1.2 (by omega)
  obtain ⟨hd, r, e1, e2, h4, h5, h6⟩ := h3.at hi
  have hf := fun j hj => flat3 hrv hrv_len hs i j hd e1 hj
  refine ⟨b, off, hd.1, hd.2.1.1, hd.2.1.2.1, hd.2.1.2.2, hd.2.2.1, hd.2.2.2.1, hd.2.2.2.2, r, e, hb, e2, h4, ?_, ?_, ?_, h5, h6⟩
  · have := hf 0 (by omega); rw [Nat.add_zero] at this; rw [hc _ (by omega), this]; rfl
  · rw [Nat.add_assoc, hc _ (by omega), hf 1 (by omega)]; rfl
  · rw [Nat.add_assoc, hc _ (by omega), hf 2 (by omega)]; rfl
theorem PolyC.at {i : Nat} {A : Option Addr} {n c : Nat} (h : PolyC L w (.slice A n c) qs) (hi : i < qs.length) : ∃ b off s A1 n1 c1 A2 n2 c2 q, A = some ⟨b, off, none⟩ ∧ b < w.heap.size ∧ qs[i]? = some q ∧ Hid (s = decide (q.1 < 0)) ∧
    w.cell? ⟨b, off + i * 3, none⟩ = some (.bool s) ∧ w.cell? ⟨b, off + i * 3 + 1, none⟩ = some (.slice A1 n1 c1) ∧ w.cell? ⟨b, off + i * 3 + 2, none⟩ = some (.slice A2 n2 c2) ∧ (Rd .u64 w A1 n1 c1 (dg W q.1.natAbs) ∧ n1 ≤ L) ∧ Rd .u64 w A2 n2 c2 (dg W q.2) ∧ n2 ≤ L := by
  obtain ⟨A', n', c', hs, e, h1, h2, h3⟩ := h
  injection e with e1 e2 e3
  subst e1 e2 e3
  obtain ⟨b, off, e, hb, hc⟩ := h1.2 (by omega)
  obtain ⟨hd, q, e1, e2, h4, h5, h6⟩ := h3.at hi
  have hf := fun j hj => flat3 hrv hrv_len hs i j hd e1 hj
  refine ⟨b, off, hd.1, hd.2.1.1, hd.2.1.2.1, hd.2.1.2.2, hd.2.2.1, hd.2.2.2.1, hd.2.2.2.2, q, e, hb, e2, h4, ?_, ?_, ?_, h5, h6⟩
  · have := hf 0 (by omega); rw [Nat.add_zero] at this; rw [hc _ (by omega), this]; rfl
  · rw [Nat.add_assoc, hc _ (by omega), hf 1 (by omega)]; rfl
  · rw [Nat.add_assoc, hc _ (by omega), hf 2 (by omega)]; rfl
end
end Go.Proofs.YtamfhmmcnlollaaGreat
namespace Go.Proofs.YtamfhmmcnlollaaGreat
open Go.RowKit
set_option linter.unusedVariables false

/-- a new rational in its own form -/
def GR (w : World) (q : Cn) (L : Nat) (e : Ending) (w' : World) : Prop :=
  ∃ s A1 n1 c1 A2 n2 c2, e = .returned (.agg #[.bool s, .slice A1 n1 c1, .slice A2 n2 c2]) ∧ Hid (s = decide (q.1 < 0)) ∧ Own .u64 41 w.heap.size w' A1 n1 c1 (dg W q.1.natAbs) ∧ Own .u64 41 w.heap.size w' A2 n2 c2 (dg W q.2) ∧ Below w.heap.size w w' ∧ n1 ≤ L ∧ n2 ≤ L ∧ SepA A1 A2
/-- .. and an error's number -/
def GRE (w : World) (q : Cn) (L : Nat) (e : Ending) (w' : World) : Prop :=
  ∃ s A1 n1 c1 A2 n2 c2, e = .returned (.tuple #[.agg #[.bool s, .slice A1 n1 c1, .slice A2 n2 c2], .int .i64 0]) ∧ Hid (s = decide (q.1 < 0)) ∧ Own .u64 41 w.heap.size w' A1 n1 c1 (dg W q.1.natAbs) ∧ Own .u64 41 w.heap.size w' A2 n2 c2 (dg W q.2) ∧ Below w.heap.size w w' ∧ n1 ≤ L ∧ n2 ≤ L ∧ SepA A1 A2
theorem zof_pos {A : Option Addr} {n c : Nat} {w : World} : Calls Tryz.prog 196 #[.bool false, .slice A n c] w (Keeps (.agg #[.bool false, .slice A n c]) w) := by
  go_enter Tryz.func196, Tryz.ntmps196
  go_wp2
  refine bodyPost_ret (v := .agg #[.bool false, .slice A n c]) (by simp [results, Tryz.results196, go_sem]) rfl ?_
  exact ⟨rfl, (Below.refl _ _).alloc (Nat.le_refl _) _⟩
theorem zof_neg {A : Option Addr} {n c : Nat} {w : World} : Calls Tryz.prog 196 #[.bool true, .slice A n c] w (Keeps (.agg #[.bool (decide (0 < n)), .slice A n c]) w) := by
  go_enter Tryz.func196, Tryz.ntmps196
  go_wp2
  refine bodyPost_ret (v := .agg #[.bool (decide (0 < n)), .slice A n c]) (by simp [results, Tryz.results196, go_sem]) rfl ?_
  exact ⟨rfl, (Below.refl _ _).alloc (Nat.le_refl _) _⟩
theorem zof_any {A : Option Addr} {n c : Nat} {s : Bool} {w : World} : Calls Tryz.prog 196 #[.bool s, .slice A n c] w (Keeps (.agg #[.bool (s && decide (0 < n)), .slice A n c]) w) := by
  cases s
  · exact zof_pos
  · exact zof_neg
theorem sgn_len {s : Bool} {x n c : Nat} {k : IntKind} {t : TypeId} {B : Nat} {w : World} {A : Option Addr} (h : Own k t B w A n c (dg W x)) : (s && decide (0 < n)) = decide (sg s x < 0) := by
  rw [sg_neg]
  congr 1
  rcases Nat.eq_zero_or_pos x with hx | hx
  · have := len_zero h hx
    simp [hx, this]
  · have := len_pos h hx
    simp [hx, this]
set_option maxHeartbeats 1000000 in
theorem znorm_any {s : Bool} {A : Option Addr} {n c x L : Nat} {w : World} (h : Num w (.slice A n c) x L) (hL : L ≤ 1099511627776) : Calls Tryz.prog 192 #[.agg #[.bool s, .slice A n c]] w (GI w (sg s x) L) := by
  have H := Lib.hid h
  clear h
  go_enter Tryz.func192, Tryz.ntmps192
  go_wp2_with fail
  have e_f0 := ((At.boxc (i := 0) (v := .bool s) (t := 60) (b := w.heap.size) w #[.bool s, .slice A n c] rfl (by simp)).below ((Below.refl _ _).alloc (Nat.le_refl _) (.cells #[.bool false, .slice none 0 0] 60))).1
  have g_f0 := At.growS (b := (w.heap.size + 1)) ((At.boxc (i := 0) (v := .bool s) (t := 60) (b := w.heap.size) w #[.bool s, .slice A n c] rfl (by simp)).below ((Below.refl _ _).alloc (Nat.le_refl _) (.cells #[.bool false, .slice none 0 0] 60))) (by simp <;> omega)
  have e_f1 := ((At.boxc (i := 1) (v := .slice A n c) (t := 60) (b := w.heap.size) w #[.bool s, .slice A n c] rfl (by simp)).below ((Below.refl _ _).alloc (Nat.le_refl _) (.cells #[.bool false, .slice none 0 0] 60))).1
  have g_f1 := At.growS (b := (w.heap.size + 1)) ((At.boxc (i := 1) (v := .slice A n c) (t := 60) (b := w.heap.size) w #[.bool s, .slice A n c] rfl (by simp)).below ((Below.refl _ _).alloc (Nat.le_refl _) (.cells #[.bool false, .slice none 0 0] 60))) (by simp <;> omega)
  refine wp_region_grow (some (w.heap.size + 1)) [(true, 0), (true, 1), (true, 2), (true, 3), (false, 4), (false, 5), (false, 6)] (by kernel_rfl) (by kernel_rfl) ?_
  repeat (refine ord_pas (by rfl) (fun K hK => ?_); go_simp; refine hK _ _ (fun w' hw' => (by first | (go_simp; done) | (go_simp; intro hh; cases hh))) ?_; clear hK K)
  (refine ord_call (by rfl) (fun K hK => ?_); go_simp; refine hK _ _ ?_; clear hK K)
  refine (nnorm_any (((H.out.below ((Below.refl _ _).alloc (Nat.le_refl _) (.cells #[.bool s, .slice A n c] 60))).below ((Below.refl _ _).alloc (Nat.le_refl _) (.cells #[.bool false, .slice none 0 0] 60))).below (Below.refl _ _).drew) (by omega)).mono ?_
  rintro e w1 ⟨A_p, n_p, c_p, rfl, o_p, hb1, l_p⟩
  refine ⟨_, rfl, Grow.of_below hb1, ?_⟩
  (refine ord_norm (fun K hK => ?_); go_simp; refine hK _ ?_; clear hK K)
  (refine ord_call (by rfl) (fun K hK => ?_); go_simp; refine hK _ _ ?_; clear hK K)
  refine (zof_any (s := s)).mono ?_
  rintro e w2 ⟨rfl, hb2⟩
  refine ⟨_, rfl, Grow.of_below hb2, ?_⟩
  (refine ord_norm (fun K hK => ?_); go_simp; refine hK _ ?_; clear hK K)
  have c1 := ((((Cel.box (i := 0) (v := .bool false) (t := 60) (b := w.heap.size + 1) (World.alloc w (.cells #[.bool s, .slice A n c] 60)) #[.bool false, .slice none 0 0] rfl (by simp)).below (Below.refl _ _).drew).below hb1).below hb2)
  have c2 := ((((Cel.box (i := 1) (v := .slice none 0 0) (t := 60) (b := w.heap.size + 1) (World.alloc w (.cells #[.bool s, .slice A n c] 60)) #[.bool false, .slice none 0 0] rfl (by simp)).below (Below.refl _ _).drew).below hb1).below hb2)
  obtain ⟨c1a, c1b, c1c⟩ := c1
  obtain ⟨c2a, c2b, c2c⟩ := c2
  (refine ord_act (by rfl) (fun K hK => ?_); go_simp)
  refine hK _ _ ⟨Grow.trans _ _ _ _ (Grow.set rfl _) (Grow.set rfl _), ?_⟩
  clear hK K
  refine ord_nil ?_
  have HO := Lib.hid (o_p.below hb2)
  have HB := Lib.hid (bt (bt (bt (bt ((Below.refl _ _).alloc (Nat.le_refl _) (.cells #[.bool s, .slice A n c] 60)) ((Below.refl _ _).alloc (Nat.le_refl _) (.cells #[.bool false, .slice none 0 0] 60))) (Below.refl _ _).drew) hb1) hb2)
  have HS : Hid ((s && decide (0 < n_p)) = decide (sg s x < 0)) := sgn_len HO.out
  go_wp2
  refine bodyPost_ret (v := .agg #[.bool (s && decide (0 < n_p)), .slice A_p n_p c_p]) (by simp [results, Tryz.results192, go_sem, c1a, c2a]) rfl ?_
  refine gi_fin (wb := World.drew (World.alloc (World.alloc w (.cells #[.bool s, .slice A n c] 60)) (.cells #[.bool false, .slice none 0 0] 60))) HS (by rw [sg_abs]; exact HO.out) HB.out ?_ (by omega)
  refine ⟨by omega, ?_⟩
  simp
set_option maxHeartbeats 1000000 in
theorem znat_any {s : Bool} {A : Option Addr} {n c x L : Nat} {w : World} (h : Num w (.slice A n c) x L) (hL : L ≤ 1099511627776) : Calls Tryz.prog 194 #[.bool s, .slice A n c] w (GI w (sg s x) L) := by
  have H := Lib.hid h
  clear h
  go_enter Tryz.func194, Tryz.ntmps194
  go_wp2_with fail
  refine (znorm_any (H.out.below ((Below.refl _ _).alloc (Nat.le_refl _) (.cells #[.bool false, .slice none 0 0] 60))) (by omega)).mono ?_
  rintro e w1 ⟨A_r, n_r, c_r, s_r, rfl, hs_r, o_r, hb1, l_r⟩
  have c1 := ((Cel.box (i := 0) (v := .bool false) (t := 60) (b := w.heap.size) w #[.bool false, .slice none 0 0] rfl (by simp)).below hb1)
  have c2 := ((Cel.box (i := 1) (v := .slice none 0 0) (t := 60) (b := w.heap.size) w #[.bool false, .slice none 0 0] rfl (by simp)).below hb1)
  obtain ⟨c1a, c1b, c1c⟩ := c1
  obtain ⟨c2a, c2b, c2c⟩ := c2
  have HO := Lib.hid o_r
  have HB := Lib.hid (bt ((Below.refl _ _).alloc (Nat.le_refl _) (.cells #[.bool false, .slice none 0 0] 60)) hb1)
  go_wp2
  refine bodyPost_ret (v := .agg #[.bool s_r, .slice A_r n_r c_r]) (by simp [results, Tryz.results194, go_sem, c1a, c2a]) rfl ?_
  exact gi_fin (wb := World.alloc w (.cells #[.bool false, .slice none 0 0] 60)) hs_r HO.out HB.out ⟨by omega, by simp⟩ (by omega)
theorem nb_dec {x : Nat} : decide (((nb x : Nat) : Int) = 0) = decide (x = 0) := by
  rcases Nat.eq_zero_or_pos x with h | h
  · subst h; rfl
  · have := nb_pos h
    rw [decide_eq_false (by omega), decide_eq_false (by omega)]
set_option maxHeartbeats 1000000 in
theorem check_ok {s : Bool} {u : Value} {A : Option Addr} {n c y L : Nat} {w : World} (h : Num w (.slice A n c) y L) (hy : 0 < y) (hL : L ≤ 1073741824) : Calls Tryz.prog 177 #[.agg #[.bool s, u, .slice A n c]] w (Keeps (.int .i64 0) w) := by
  have H := Lib.hid h
  have HYY := Lib.hid hy
  clear h hy
  go_enter Tryz.func177, Tryz.ntmps177
  go_wp2_with fail
  refine (nbits_any (H.out.below ((Below.refl _ _).alloc (Nat.le_refl _) (.cells #[.bool s, u, .slice A n c] 62))) (by omega)).mono ?_
  rintro e w' ⟨rfl, rfl⟩
  have d1 : (((nb y : Nat) : Int) == 0) = false := by show decide (((nb y : Nat) : Int) = 0) = false; rw [nb_dec]; have := HYY.out; simp; omega
  have HEND : Hid (Below w.heap.size w (World.alloc w (.cells #[.bool s, u, .slice A n c] 62))) := ((Below.refl _ _).alloc (Nat.le_refl _) (.cells #[.bool s, u, .slice A n c] 62))
  go_wp2
  go_ret
  exact ⟨rfl, HEND.out⟩
set_option maxHeartbeats 1000000 in
theorem check_zero {s : Bool} {u : Value} {A : Option Addr} {n c y L : Nat} {w : World} (h : Num w (.slice A n c) y L) (hy : y = 0) (hL : L ≤ 1073741824) : Calls Tryz.prog 177 #[.agg #[.bool s, u, .slice A n c]] w (Keeps (.int .i64 1) w) := by
  have H := Lib.hid h
  have HYY := Lib.hid hy
  clear h hy
  go_enter Tryz.func177, Tryz.ntmps177
  go_wp2_with fail
  refine (nbits_any (H.out.below ((Below.refl _ _).alloc (Nat.le_refl _) (.cells #[.bool s, u, .slice A n c] 62))) (by omega)).mono ?_
  rintro e w' ⟨rfl, rfl⟩
  have d1 : (((nb y : Nat) : Int) == 0) = true := by show decide (((nb y : Nat) : Int) = 0) = true; rw [nb_dec]; have := HYY.out; simp; omega
  have HEND : Hid (Below w.heap.size w (World.alloc w (.cells #[.bool s, u, .slice A n c] 62))) := ((Below.refl _ _).alloc (Nat.le_refl _) (.cells #[.bool s, u, .slice A n c] 62))
  go_wp2
  go_ret
  exact ⟨rfl, HEND.out⟩
/-- the sign of an integer -/
def zsgn (z : Int) : Int := if z = 0 then 0 else if z < 0 then -1 else 1
set_option maxHeartbeats 1000000 in
theorem zsign_any {s : Bool} {A : Option Addr} {n c x L : Nat} {w : World} (h : Num w (.slice A n c) x L) (hL : L ≤ 1099511627776) : Calls Tryz.prog 197 #[.agg #[.bool s, .slice A n c]] w (Keeps (.int .i64 (zsgn (sg s x))) w) := by
  have H := Lib.hid h
  clear h
  go_enter Tryz.func197, Tryz.ntmps197
  have x0 := (At.boxc (i := 0) (v := .bool s) (t := 60) (b := w.heap.size) w #[.bool s, .slice A n c] rfl (by simp)).1
  have x1 := (At.boxc (i := 1) (v := .slice A n c) (t := 60) (b := w.heap.size) w #[.bool s, .slice A n c] rfl (by simp)).1
  go_wp2_with fail
  refine (znorm_any (s := s) (H.out.below ((Below.refl _ _).alloc (Nat.le_refl _) (.cells #[.bool s, .slice A n c] 60))) (by omega)).mono ?_
  rintro e w1 ⟨A_r, n_r, c_r, s_r, rfl, hs_r, o_r, hb1, l_r⟩
  clear x0 x1
  have HO := Lib.hid o_r
  have HEND := Lib.hid (bt ((Below.refl _ _).alloc (Nat.le_refl _) (.cells #[.bool s, .slice A n c] 60)) hb1)
  rcases Int.lt_trichotomy (sg s x) 0 with hz | hz | hz
  · have e1 : s_r = true := by rw [hs_r.out]; simp; exact hz
    have e2 : zsgn (sg s x) = -1 := by unfold zsgn; rw [if_neg (by omega), if_pos hz]
    subst e1
    go_wp2
    go_ret
    exact ⟨by rw [e2]; rfl, HEND.out.alloc (by have := HEND.out.size; omega) _⟩
  · have e1 : s_r = false := by rw [hs_r.out]; simp; omega
    have e3 : n_r = 0 := len_zero HO.out (by omega)
    have e2 : zsgn (sg s x) = 0 := by unfold zsgn; rw [if_pos hz]
    subst e1 e3
    go_wp2
    go_ret
    exact ⟨by rw [e2]; rfl, HEND.out.alloc (by have := HEND.out.size; omega) _⟩
  · have e1 : s_r = false := by rw [hs_r.out]; simp; omega
    have e3 : 0 < n_r := len_pos HO.out (by omega)
    have e2 : zsgn (sg s x) = 1 := by unfold zsgn; rw [if_neg (by omega), if_neg (by omega)]
    have d1 : decide ((0 : Int) < (n_r : Int)) = true := by simp; omega
    subst e1
    go_wp2
    go_ret
    exact ⟨by rw [e2]; rfl, HEND.out.alloc (by have := HEND.out.size; omega) _⟩
set_option maxHeartbeats 1000000 in
theorem qsign_any {s : Bool} {A A2 : Option Addr} {n c n2 c2 x y L : Nat} {w : World} (h : Num w (.slice A n c) x L) (h2 : Num w (.slice A2 n2 c2) y L) (hy : 0 < y) (hL : L ≤ 1073741824) :
    Calls Tryz.prog 195 #[.agg #[.bool s, .slice A n c, .slice A2 n2 c2]] w (Keeps (.tuple #[.int .i64 (zsgn (sg s x)), .int .i64 0]) w) := by
  have H := Lib.hid h
  have H2 := Lib.hid h2
  clear h h2
  go_enter Tryz.func195, Tryz.ntmps195
  have x0 := (At.boxc (i := 0) (v := .bool s) (t := 62) (b := w.heap.size) w #[.bool s, .slice A n c, .slice A2 n2 c2] rfl (by simp)).1
  have x1 := (At.boxc (i := 1) (v := .slice A n c) (t := 62) (b := w.heap.size) w #[.bool s, .slice A n c, .slice A2 n2 c2] rfl (by simp)).1
  have x2 := (At.boxc (i := 2) (v := .slice A2 n2 c2) (t := 62) (b := w.heap.size) w #[.bool s, .slice A n c, .slice A2 n2 c2] rfl (by simp)).1
  go_wp2_with fail
  refine (check_ok (s := s) (u := .slice A n c) (H2.out.below ((Below.refl _ _).alloc (Nat.le_refl _) (.cells #[.bool s, .slice A n c, .slice A2 n2 c2] 62))) hy hL).mono ?_
  rintro e w1 ⟨rfl, hb1⟩
  clear x0 x1 x2
  have x0 := ((At.boxc (i := 0) (v := .bool s) (t := 62) (b := w.heap.size) w #[.bool s, .slice A n c, .slice A2 n2 c2] rfl (by simp)).below hb1).1
  have x1 := ((At.boxc (i := 1) (v := .slice A n c) (t := 62) (b := w.heap.size) w #[.bool s, .slice A n c, .slice A2 n2 c2] rfl (by simp)).below hb1).1
  go_wp2_with fail
  refine (zsign_any (s := s) ((H.out.below ((Below.refl _ _).alloc (Nat.le_refl _) (.cells #[.bool s, .slice A n c, .slice A2 n2 c2] 62))).below hb1) (by omega)).mono ?_
  rintro e w2 ⟨rfl, hb2⟩
  have HEND := Lib.hid (bt (bt ((Below.refl _ _).alloc (Nat.le_refl _) (.cells #[.bool s, .slice A n c, .slice A2 n2 c2] 62)) hb1) hb2)
  clear x0 x1
  go_wp2
  go_ret2
  exact ⟨rfl, HEND.out⟩
set_option maxHeartbeats 1000000 in
theorem qzero_any {s : Bool} {A A2 : Option Addr} {n c n2 c2 x y L : Nat} {w : World} (h : Num w (.slice A n c) x L) (h2 : Num w (.slice A2 n2 c2) y L) (hy : 0 < y) (hL : L ≤ 1073741824) :
    Calls Tryz.prog 179 #[.agg #[.bool s, .slice A n c, .slice A2 n2 c2]] w (Keeps (.bool (decide (x = 0))) w) := by
  have H := Lib.hid h
  have H2 := Lib.hid h2
  clear h h2
  go_enter Tryz.func179, Tryz.ntmps179
  have x0 := (At.boxc (i := 0) (v := .bool s) (t := 62) (b := w.heap.size) w #[.bool s, .slice A n c, .slice A2 n2 c2] rfl (by simp)).1
  have x1 := (At.boxc (i := 1) (v := .slice A n c) (t := 62) (b := w.heap.size) w #[.bool s, .slice A n c, .slice A2 n2 c2] rfl (by simp)).1
  have x2 := (At.boxc (i := 2) (v := .slice A2 n2 c2) (t := 62) (b := w.heap.size) w #[.bool s, .slice A n c, .slice A2 n2 c2] rfl (by simp)).1
  go_wp2_with fail
  refine (qsign_any (s := s) (H.out.below ((Below.refl _ _).alloc (Nat.le_refl _) (.cells #[.bool s, .slice A n c, .slice A2 n2 c2] 62))) (H2.out.below ((Below.refl _ _).alloc (Nat.le_refl _) (.cells #[.bool s, .slice A n c, .slice A2 n2 c2] 62))) hy hL).mono ?_
  rintro e w1 ⟨rfl, hb1⟩
  clear x0 x1 x2
  have HEND := Lib.hid (bt ((Below.refl _ _).alloc (Nat.le_refl _) (.cells #[.bool s, .slice A n c, .slice A2 n2 c2] 62)) hb1)
  have e : (zsgn (sg s x) == 0) = decide (x = 0) := by
    show decide (zsgn (sg s x) = 0) = _
    have h1 := sg_abs s x
    unfold zsgn
    rcases Nat.eq_zero_or_pos x with h0 | h0
    · have : sg s x = 0 := by omega
      rw [if_pos this]; simp [h0]
    · have : sg s x ≠ 0 := by omega
      rw [if_neg this]
      split <;> simp <;> omega
  go_wp2
  go_ret
  exact ⟨by simp [← e], HEND.out⟩
theorem Own.cells3 {k : IntKind} {t : TypeId} {B n c b : Nat} {w : World} {A : Option Addr} {xs : List Nat} {u1 u2 u3 : Value} (h : Own k t B w A n c xs) (hp : b < B) : Own k t B (((w.setCell ⟨b, 0, none⟩ u1).setCell ⟨b, 1, none⟩ u2).setCell ⟨b, 2, none⟩ u3) A n c xs :=
  (h.cells2 hp).ex (S := fun k => k = b) (Ex.setCell _ _ _ _ rfl) (fun a e hs => by have := (h.cells2 (u1 := u1) (u2 := u2) hp).lies a e; omega)
theorem below_cells3 {B b : Nat} {w w' : World} {u1 u2 u3 : Value} (h : Below B w w') (hb : B ≤ b) : Below B w (((w'.setCell ⟨b, 0, none⟩ u1).setCell ⟨b, 1, none⟩ u2).setCell ⟨b, 2, none⟩ u3) :=
  (below_cells2 h hb).setCell (p := ⟨b, 2, none⟩) hb u3
/-- the end of a walk that answers one rational -/
theorem gr_fin {w wb wb2 w' : World} {q : Cn} {L b n c n2 c2 : Nat} {s : Bool} {A A2 : Option Addr} {u1 u2 u3 : Value} (hs : s = decide (q.1 < 0)) (ho : Own .u64 41 wb.heap.size w' A n c (dg W q.1.natAbs)) (ho2 : Own .u64 41 wb2.heap.size w' A2 n2 c2 (dg W q.2)) (hb : Below w.heap.size w w') (hwb : w.heap.size ≤ b ∧ b < wb.heap.size ∧ b < wb2.heap.size) (hl : n ≤ L) (hl2 : n2 ≤ L) (hsp : SepA A A2) :
    GR w q L (.returned (.agg #[.bool s, .slice A n c, .slice A2 n2 c2])) (((w'.setCell ⟨b, 0, none⟩ u1).setCell ⟨b, 1, none⟩ u2).setCell ⟨b, 2, none⟩ u3) :=
  ⟨s, A, n, c, A2, n2, c2, rfl, hs, (ho.cells3 hwb.2.1).mono (by omega), (ho2.cells3 hwb.2.2).mono (by omega), below_cells3 hb hwb.1, hl, hl2, hsp⟩
theorem nrm_sg {s : Bool} {x g : Nat} (hg : 0 < g) : sg (decide (sg s x < 0)) (x / g) = sg s (x / g) := by
  unfold sg
  rcases Nat.eq_zero_or_pos x with h | h
  · subst h
    cases s <;> simp
  · cases s <;> simp <;> omega
set_option maxHeartbeats 4000000 in
theorem reduced_any {s : Bool} {A A2 : Option Addr} {n c n2 c2 x y L : Nat} {w : World} (h : Num w (.slice A n c) x L) (h2 : Num w (.slice A2 n2 c2) y L) (hy : 0 < y) (hL1 : 1 ≤ L) (hL : L ≤ 268435456) :
    Calls Tryz.prog 178 #[.agg #[.bool s, .slice A n c], .slice A2 n2 c2] w (GR w (nrm (s, x, y)) L) := by
  have H := Lib.hid h
  have H2 := Lib.hid h2
  clear h h2
  go_enter Tryz.func178, Tryz.ntmps178
  have x0 := ((Cel.box (i := 0) (v := .bool s) (t := 60) (b := w.heap.size) w #[.bool s, .slice A n c] rfl (by simp)).below ((Below.refl _ _).alloc (Nat.le_refl _) (.cells #[.bool false, .slice none 0 0, .slice none 0 0] 62)))
  have x1 := ((Cel.box (i := 1) (v := .slice A n c) (t := 60) (b := w.heap.size) w #[.bool s, .slice A n c] rfl (by simp)).below ((Below.refl _ _).alloc (Nat.le_refl _) (.cells #[.bool false, .slice none 0 0, .slice none 0 0] 62)))
  obtain ⟨x0a, x0b, x0c⟩ := x0
  obtain ⟨x1a, x1b, x1c⟩ := x1
  go_wp2_with fail
  refine (znorm_any (s := s) ((H.out.below ((Below.refl _ _).alloc (Nat.le_refl _) (.cells #[.bool s, .slice A n c] 60))).below ((Below.refl _ _).alloc (Nat.le_refl _) (.cells #[.bool false, .slice none 0 0, .slice none 0 0] 62))) (by omega)).mono ?_
  rintro e w1 ⟨A_p, n_p, c_p, s_p, rfl, hs_p, o_p, hb1, l_p⟩
  clear x0a x0b x0c x1a x1b x1c
  have HB1 : Hid (Below w.heap.size w ((w1.setCell ⟨w.heap.size, 0, none⟩ (.bool s_p)).setCell ⟨w.heap.size, 1, none⟩ (.slice A_p n_p c_p))) := below_cells2 (bt (bt ((Below.refl _ _).alloc (Nat.le_refl _) (.cells #[.bool s, .slice A n c] 60)) ((Below.refl _ _).alloc (Nat.le_refl _) (.cells #[.bool false, .slice none 0 0, .slice none 0 0] 62))) hb1) (Nat.le_refl _)
  have O1 : Hid (Own .u64 41 w.heap.size ((w1.setCell ⟨w.heap.size, 0, none⟩ (.bool s_p)).setCell ⟨w.heap.size, 1, none⟩ (.slice A_p n_p c_p)) A_p n_p c_p (dg W (sg s x).natAbs)) := ((o_p).cells2 (by simp <;> omega)).mono (by simp <;> omega)
  have F0 : Hid (Cel ((w1.setCell ⟨w.heap.size, 0, none⟩ (.bool s_p)).setCell ⟨w.heap.size, 1, none⟩ (.slice A_p n_p c_p)) ⟨w.heap.size, 0, none⟩ (.bool s_p)) := ((((Cel.box (i := 0) (v := .bool s) (t := 60) (b := w.heap.size) w #[.bool s, .slice A n c] rfl (by simp)).below ((Below.refl _ _).alloc (Nat.le_refl _) (.cells #[.bool false, .slice none 0 0, .slice none 0 0] 62))).below hb1).put).set (by simp)
  have F1 : Hid (Cel ((w1.setCell ⟨w.heap.size, 0, none⟩ (.bool s_p)).setCell ⟨w.heap.size, 1, none⟩ (.slice A_p n_p c_p)) ⟨w.heap.size, 1, none⟩ (.slice A_p n_p c_p)) := ((((Cel.box (i := 1) (v := .slice A n c) (t := 60) (b := w.heap.size) w #[.bool s, .slice A n c] rfl (by simp)).below ((Below.refl _ _).alloc (Nat.le_refl _) (.cells #[.bool false, .slice none 0 0, .slice none 0 0] 62))).below hb1).set (by simp)).put
  have R0 : Hid (Cel ((w1.setCell ⟨w.heap.size, 0, none⟩ (.bool s_p)).setCell ⟨w.heap.size, 1, none⟩ (.slice A_p n_p c_p)) ⟨w.heap.size + 1, 0, none⟩ (.bool false)) := (((Cel.box (i := 0) (v := .bool false) (t := 62) (b := w.heap.size + 1) (World.alloc w (.cells #[.bool s, .slice A n c] 60)) #[.bool false, .slice none 0 0, .slice none 0 0] rfl (by simp)).below hb1).set (by simp)).set (by simp)
  have R1 : Hid (Cel ((w1.setCell ⟨w.heap.size, 0, none⟩ (.bool s_p)).setCell ⟨w.heap.size, 1, none⟩ (.slice A_p n_p c_p)) ⟨w.heap.size + 1, 1, none⟩ (.slice none 0 0)) := (((Cel.box (i := 1) (v := .slice none 0 0) (t := 62) (b := w.heap.size + 1) (World.alloc w (.cells #[.bool s, .slice A n c] 60)) #[.bool false, .slice none 0 0, .slice none 0 0] rfl (by simp)).below hb1).set (by simp)).set (by simp)
  have R2 : Hid (Cel ((w1.setCell ⟨w.heap.size, 0, none⟩ (.bool s_p)).setCell ⟨w.heap.size, 1, none⟩ (.slice A_p n_p c_p)) ⟨w.heap.size + 1, 2, none⟩ (.slice none 0 0)) := (((Cel.box (i := 2) (v := .slice none 0 0) (t := 62) (b := w.heap.size + 1) (World.alloc w (.cells #[.bool s, .slice A n c] 60)) #[.bool false, .slice none 0 0, .slice none 0 0] rfl (by simp)).below hb1).set (by simp)).set (by simp)
  have Z1 : Hid (w.heap.size + 1 < ((w1.setCell ⟨w.heap.size, 0, none⟩ (.bool s_p)).setCell ⟨w.heap.size, 1, none⟩ (.slice A_p n_p c_p)).heap.size) := R0.out.2.2
  have c1 := (((Cel.box (i := 0) (v := .bool s) (t := 60) (b := w.heap.size) w #[.bool s, .slice A n c] rfl (by simp)).below ((Below.refl _ _).alloc (Nat.le_refl _) (.cells #[.bool false, .slice none 0 0, .slice none 0 0] 62))).below hb1)
  have c2 := (((Cel.box (i := 1) (v := .slice A n c) (t := 60) (b := w.heap.size) w #[.bool s, .slice A n c] rfl (by simp)).below ((Below.refl _ _).alloc (Nat.le_refl _) (.cells #[.bool false, .slice none 0 0, .slice none 0 0] 62))).below hb1)
  obtain ⟨c1a, c1b, c1c⟩ := c1
  obtain ⟨c2a, c2b, c2c⟩ := c2
  go_wp2_with fail
  clear c1a c1b c1c c2a c2b c2c
  generalize hW2 : (w1.setCell ⟨w.heap.size, 0, none⟩ (.bool s_p)).setCell ⟨w.heap.size, 1, none⟩ (.slice A_p n_p c_p) = wq at HB1 O1 F0 F1 R0 R1 R2 Z1 ⊢
  clear hW2
  have hs1 := hs_p
  have hg0 : 0 < Nat.gcd x y := Nat.gcd_pos_of_pos_right _ hy
  have hla : n_p ≤ L := by omega
  clear o_p hb1
  rw [sg_abs] at O1
  go_wp2_with fail
  refine (gcd_any ((O1.out.num hla)) (H2.out.below HB1.out) (by omega) (by omega)).mono ?_
  rintro e w2 ⟨A_g, n_g, c_g, rfl, o_g, hb2, l_g⟩
  have x0 := (F1.out.below hb2).1
  go_wp2_with fail
  refine (exact_any (((O1.out.num hla)).below hb2) (o_g.num l_g) hg0 (Nat.mod_eq_zero_of_dvd (Nat.gcd_dvd_left _ _)) (by omega) (by omega)).mono ?_
  rintro e w3 ⟨A_m, n_m, c_m, rfl, o_m, hb3, l_m⟩
  clear x0
  go_wp2_with fail
  refine (exact_any (((H2.out.below HB1.out).below hb2).below hb3) ((o_g.num l_g).below hb3) hg0 (Nat.mod_eq_zero_of_dvd (Nat.gcd_dvd_right _ _)) (by omega) (by omega)).mono ?_
  rintro e w4 ⟨A_e, n_e, c_e, rfl, o_e, hb4, l_e⟩
  have L_e := Lib.hid o_e.lies
  have x0 := (((F0.out.below hb2).below hb3).below hb4).1
  go_wp2_with fail
  refine (znat_any (s := s_p) ((o_m.num l_m).below hb4) (by omega)).mono ?_
  rintro e w5 ⟨A_r, n_r, c_r, s_r, rfl, hs_r, o_r, hb5, l_r⟩
  clear x0
  have O3 := Lib.hid o_r
  have O2 := Lib.hid (o_e.below hb5)
  have HB := Lib.hid (HB1.out.trans ((bt (bt (bt hb2 hb3) hb4) hb5).mono (by have := HB1.out.size; omega)))
  have c1 := ((((R0.out.below hb2).below hb3).below hb4).below hb5)
  have c2 := ((((R1.out.below hb2).below hb3).below hb4).below hb5)
  have c3 := ((((R2.out.below hb2).below hb3).below hb4).below hb5)
  obtain ⟨c1a, c1b, c1c⟩ := c1
  obtain ⟨c2a, c2b, c2c⟩ := c2
  obtain ⟨c3a, c3b, c3c⟩ := c3
  have hs2 : Hid (s_r = decide ((nrm (s, x, y)).1 < 0)) := by
    show s_r = decide (sg s (x / Nat.gcd x y) < 0)
    rw [hs_r.out, hs1.out, nrm_sg hg0]
  have hn2 : (sg s_p (x / Nat.gcd x y)).natAbs = (nrm (s, x, y)).1.natAbs := by rw [sg_abs]; exact (sg_abs s (x / Nat.gcd x y)).symm
  go_wp2
  refine bodyPost_ret (v := .agg #[.bool s_r, .slice A_r n_r c_r, .slice A_e n_e c_e]) (by simp [results, Tryz.results178, go_sem, c1a, c2a, c3a]) rfl ?_
  rw [hn2] at O3
  exact gr_fin hs2.out O3.out O2.out HB.out ⟨by omega, by have := Z1.out; have := hb2.size; have := hb3.size; have := hb4.size; omega, by have := Z1.out; have := hb2.size; have := hb3.size; omega⟩ (by omega) (by omega) (fun a b e1 e2 => by have h1 := O3.out.lies a e1; have h2 := L_e.out b e2; omega)
set_option maxHeartbeats 4000000 in
theorem ref8R_any {s : Bool} {A A2 : Option Addr} {n c n2 c2 x y L : Nat} {w : World} (h : Num w (.slice A n c) x L) (h2 : Num w (.slice A2 n2 c2) y L) (hy : 0 < y) (hL1 : 1 ≤ L) (hL : L ≤ 268435456) :
    Calls Tryz.prog 124 #[.agg #[.bool s, .slice A n c], .slice A2 n2 c2] w (GR w (nrm (s, x, y)) L) := by
  have H := Lib.hid h
  have H2 := Lib.hid h2
  clear h h2
  go_enter Tryz.func124, Tryz.ntmps124
  have x0 := ((Cel.box (i := 0) (v := .bool s) (t := 60) (b := w.heap.size) w #[.bool s, .slice A n c] rfl (by simp)).below ((Below.refl _ _).alloc (Nat.le_refl _) (.cells #[.bool false, .slice none 0 0, .slice none 0 0] 62)))
  have x1 := ((Cel.box (i := 1) (v := .slice A n c) (t := 60) (b := w.heap.size) w #[.bool s, .slice A n c] rfl (by simp)).below ((Below.refl _ _).alloc (Nat.le_refl _) (.cells #[.bool false, .slice none 0 0, .slice none 0 0] 62)))
  obtain ⟨x0a, x0b, x0c⟩ := x0
  obtain ⟨x1a, x1b, x1c⟩ := x1
  go_wp2_with fail
  refine (I5_any (s := s) ((H.out.below ((Below.refl _ _).alloc (Nat.le_refl _) (.cells #[.bool s, .slice A n c] 60))).below ((Below.refl _ _).alloc (Nat.le_refl _) (.cells #[.bool false, .slice none 0 0, .slice none 0 0] 62))) (by omega)).mono ?_
  rintro e w1 ⟨A_p, n_p, c_p, s_p, rfl, hs_p, o_p, hb1, l_p⟩
  clear x0a x0b x0c x1a x1b x1c
  have HB1 : Hid (Below w.heap.size w ((w1.setCell ⟨w.heap.size, 0, none⟩ (.bool s_p)).setCell ⟨w.heap.size, 1, none⟩ (.slice A_p n_p c_p))) := below_cells2 (bt (bt ((Below.refl _ _).alloc (Nat.le_refl _) (.cells #[.bool s, .slice A n c] 60)) ((Below.refl _ _).alloc (Nat.le_refl _) (.cells #[.bool false, .slice none 0 0, .slice none 0 0] 62))) hb1) (Nat.le_refl _)
  have O1 : Hid (Own .u64 41 w.heap.size ((w1.setCell ⟨w.heap.size, 0, none⟩ (.bool s_p)).setCell ⟨w.heap.size, 1, none⟩ (.slice A_p n_p c_p)) A_p n_p c_p (dg W (sg s x).natAbs)) := ((o_p).cells2 (by simp <;> omega)).mono (by simp <;> omega)
  have F0 : Hid (Cel ((w1.setCell ⟨w.heap.size, 0, none⟩ (.bool s_p)).setCell ⟨w.heap.size, 1, none⟩ (.slice A_p n_p c_p)) ⟨w.heap.size, 0, none⟩ (.bool s_p)) := ((((Cel.box (i := 0) (v := .bool s) (t := 60) (b := w.heap.size) w #[.bool s, .slice A n c] rfl (by simp)).below ((Below.refl _ _).alloc (Nat.le_refl _) (.cells #[.bool false, .slice none 0 0, .slice none 0 0] 62))).below hb1).put).set (by simp)
  have F1 : Hid (Cel ((w1.setCell ⟨w.heap.size, 0, none⟩ (.bool s_p)).setCell ⟨w.heap.size, 1, none⟩ (.slice A_p n_p c_p)) ⟨w.heap.size, 1, none⟩ (.slice A_p n_p c_p)) := ((((Cel.box (i := 1) (v := .slice A n c) (t := 60) (b := w.heap.size) w #[.bool s, .slice A n c] rfl (by simp)).below ((Below.refl _ _).alloc (Nat.le_refl _) (.cells #[.bool false, .slice none 0 0, .slice none 0 0] 62))).below hb1).set (by simp)).put
  have R0 : Hid (Cel ((w1.setCell ⟨w.heap.size, 0, none⟩ (.bool s_p)).setCell ⟨w.heap.size, 1, none⟩ (.slice A_p n_p c_p)) ⟨w.heap.size + 1, 0, none⟩ (.bool false)) := (((Cel.box (i := 0) (v := .bool false) (t := 62) (b := w.heap.size + 1) (World.alloc w (.cells #[.bool s, .slice A n c] 60)) #[.bool false, .slice none 0 0, .slice none 0 0] rfl (by simp)).below hb1).set (by simp)).set (by simp)
  have R1 : Hid (Cel ((w1.setCell ⟨w.heap.size, 0, none⟩ (.bool s_p)).setCell ⟨w.heap.size, 1, none⟩ (.slice A_p n_p c_p)) ⟨w.heap.size + 1, 1, none⟩ (.slice none 0 0)) := (((Cel.box (i := 1) (v := .slice none 0 0) (t := 62) (b := w.heap.size + 1) (World.alloc w (.cells #[.bool s, .slice A n c] 60)) #[.bool false, .slice none 0 0, .slice none 0 0] rfl (by simp)).below hb1).set (by simp)).set (by simp)
  have R2 : Hid (Cel ((w1.setCell ⟨w.heap.size, 0, none⟩ (.bool s_p)).setCell ⟨w.heap.size, 1, none⟩ (.slice A_p n_p c_p)) ⟨w.heap.size + 1, 2, none⟩ (.slice none 0 0)) := (((Cel.box (i := 2) (v := .slice none 0 0) (t := 62) (b := w.heap.size + 1) (World.alloc w (.cells #[.bool s, .slice A n c] 60)) #[.bool false, .slice none 0 0, .slice none 0 0] rfl (by simp)).below hb1).set (by simp)).set (by simp)
  have Z1 : Hid (w.heap.size + 1 < ((w1.setCell ⟨w.heap.size, 0, none⟩ (.bool s_p)).setCell ⟨w.heap.size, 1, none⟩ (.slice A_p n_p c_p)).heap.size) := R0.out.2.2
  have c1 := (((Cel.box (i := 0) (v := .bool s) (t := 60) (b := w.heap.size) w #[.bool s, .slice A n c] rfl (by simp)).below ((Below.refl _ _).alloc (Nat.le_refl _) (.cells #[.bool false, .slice none 0 0, .slice none 0 0] 62))).below hb1)
  have c2 := (((Cel.box (i := 1) (v := .slice A n c) (t := 60) (b := w.heap.size) w #[.bool s, .slice A n c] rfl (by simp)).below ((Below.refl _ _).alloc (Nat.le_refl _) (.cells #[.bool false, .slice none 0 0, .slice none 0 0] 62))).below hb1)
  obtain ⟨c1a, c1b, c1c⟩ := c1
  obtain ⟨c2a, c2b, c2c⟩ := c2
  go_wp2_with fail
  clear c1a c1b c1c c2a c2b c2c
  generalize hW2 : (w1.setCell ⟨w.heap.size, 0, none⟩ (.bool s_p)).setCell ⟨w.heap.size, 1, none⟩ (.slice A_p n_p c_p) = wq at HB1 O1 F0 F1 R0 R1 R2 Z1 ⊢
  clear hW2
  have hs1 := hs_p
  have hg0 : 0 < Nat.gcd x y := Nat.gcd_pos_of_pos_right _ hy
  have hla : n_p ≤ L := by omega
  clear o_p hb1
  rw [sg_abs] at O1
  go_wp2_with fail
  refine (gcd5_any (K := L) ((O1.out.num hla)) (H2.out.below HB1.out) (by omega) (by omega) hL1 (by omega)).mono ?_
  rintro e w2 ⟨A_g, n_g, c_g, rfl, o_g, hb2, l_g⟩
  have x0 := (F1.out.below hb2).1
  go_wp2_with fail
  refine (quo5_any (((O1.out.num hla)).below hb2) (o_g.num l_g) hg0 (by omega) (by omega) (by omega) (by omega)).mono ?_
  rintro e w3 ⟨A_m, n_m, c_m, A_mr, n_mr, c_mr, rfl, o_m, o_mr, hb3, l_m, l_mr⟩
  clear x0
  go_wp2_with fail
  refine (quo5_any (((H2.out.below HB1.out).below hb2).below hb3) ((o_g.num l_g).below hb3) hg0 (by omega) (by omega) (by omega) (by omega)).mono ?_
  rintro e w4 ⟨A_e, n_e, c_e, A_er, n_er, c_er, rfl, o_e, o_er, hb4, l_e, l_er⟩
  have L_e := Lib.hid o_e.lies
  have x0 := (((F0.out.below hb2).below hb3).below hb4).1
  go_wp2_with fail
  refine (I5_any (s := s_p) ((o_m.num l_m).below hb4) (by omega)).mono ?_
  rintro e w5 ⟨A_r, n_r, c_r, s_r, rfl, hs_r, o_r, hb5, l_r⟩
  clear x0
  have O3 := Lib.hid o_r
  have O2 := Lib.hid (o_e.below hb5)
  have HB := Lib.hid (HB1.out.trans ((bt (bt (bt hb2 hb3) hb4) hb5).mono (by have := HB1.out.size; omega)))
  have c1 := ((((R0.out.below hb2).below hb3).below hb4).below hb5)
  have c2 := ((((R1.out.below hb2).below hb3).below hb4).below hb5)
  have c3 := ((((R2.out.below hb2).below hb3).below hb4).below hb5)
  obtain ⟨c1a, c1b, c1c⟩ := c1
  obtain ⟨c2a, c2b, c2c⟩ := c2
  obtain ⟨c3a, c3b, c3c⟩ := c3
  have hs2 : Hid (s_r = decide ((nrm (s, x, y)).1 < 0)) := by
    show s_r = decide (sg s (x / Nat.gcd x y) < 0)
    rw [hs_r.out, hs1.out, nrm_sg hg0]
  have hn2 : (sg s_p (x / Nat.gcd x y)).natAbs = (nrm (s, x, y)).1.natAbs := by rw [sg_abs]; exact (sg_abs s (x / Nat.gcd x y)).symm
  go_wp2
  refine bodyPost_ret (v := .agg #[.bool s_r, .slice A_r n_r c_r, .slice A_e n_e c_e]) (by simp [results, Tryz.results124, go_sem, c1a, c2a, c3a]) rfl ?_
  rw [hn2] at O3
  exact gr_fin hs2.out O3.out O2.out HB.out ⟨by omega, by have := Z1.out; have := hb2.size; have := hb3.size; have := hb4.size; omega, by have := Z1.out; have := hb2.size; have := hb3.size; omega⟩ (by omega) (by omega) (fun a b e1 e2 => by have h1 := O3.out.lies a e1; have h2 := L_e.out b e2; omega)
end Go.Proofs.YtamfhmmcnlollaaGreat
namespace Go.Proofs.YtamfhmmcnlollaaGreat
open Go.RowKit
set_option linter.unusedVariables false

set_option maxHeartbeats 1000000 in
theorem qnorm_any {s : Bool} {A A2 : Option Addr} {n c n2 c2 x y L : Nat} {w : World} (h : Num w (.slice A n c) x L) (h2 : Num w (.slice A2 n2 c2) y L) (hy : 0 < y) (hL1 : 1 ≤ L) (hL : L ≤ 268435456) :
    Calls Tryz.prog 155 #[.agg #[.bool s, .slice A n c, .slice A2 n2 c2]] w (GRE w (nrm (s, x, y)) L) := by
  have H := Lib.hid h
  have H2 := Lib.hid h2
  clear h h2
  go_enter Tryz.func155, Tryz.ntmps155
  have x0 := ((At.boxc (i := 0) (v := .bool s) (t := 62) (b := w.heap.size) w #[.bool s, .slice A n c, .slice A2 n2 c2] rfl (by simp)).below ((Below.refl _ _).alloc (Nat.le_refl _) (.cells #[.bool false, .slice none 0 0, .slice none 0 0] 62))).1
  have x1 := ((At.boxc (i := 1) (v := .slice A n c) (t := 62) (b := w.heap.size) w #[.bool s, .slice A n c, .slice A2 n2 c2] rfl (by simp)).below ((Below.refl _ _).alloc (Nat.le_refl _) (.cells #[.bool false, .slice none 0 0, .slice none 0 0] 62))).1
  have x2 := ((At.boxc (i := 2) (v := .slice A2 n2 c2) (t := 62) (b := w.heap.size) w #[.bool s, .slice A n c, .slice A2 n2 c2] rfl (by simp)).below ((Below.refl _ _).alloc (Nat.le_refl _) (.cells #[.bool false, .slice none 0 0, .slice none 0 0] 62))).1
  go_wp2_with fail
  refine (check_ok (s := s) (u := .slice A n c) ((H2.out.below ((Below.refl _ _).alloc (Nat.le_refl _) (.cells #[.bool s, .slice A n c, .slice A2 n2 c2] 62))).below ((Below.refl _ _).alloc (Nat.le_refl _) (.cells #[.bool false, .slice none 0 0, .slice none 0 0] 62))) hy (by omega)).mono ?_
  rintro e w1 ⟨rfl, hb1⟩
  clear x0 x1 x2
  have x0 := (((At.boxc (i := 0) (v := .bool s) (t := 62) (b := w.heap.size) w #[.bool s, .slice A n c, .slice A2 n2 c2] rfl (by simp)).below ((Below.refl _ _).alloc (Nat.le_refl _) (.cells #[.bool false, .slice none 0 0, .slice none 0 0] 62))).below hb1).1
  have x1 := (((At.boxc (i := 1) (v := .slice A n c) (t := 62) (b := w.heap.size) w #[.bool s, .slice A n c, .slice A2 n2 c2] rfl (by simp)).below ((Below.refl _ _).alloc (Nat.le_refl _) (.cells #[.bool false, .slice none 0 0, .slice none 0 0] 62))).below hb1).1
  have x2 := (((At.boxc (i := 2) (v := .slice A2 n2 c2) (t := 62) (b := w.heap.size) w #[.bool s, .slice A n c, .slice A2 n2 c2] rfl (by simp)).below ((Below.refl _ _).alloc (Nat.le_refl _) (.cells #[.bool false, .slice none 0 0, .slice none 0 0] 62))).below hb1).1
  go_wp2_with fail
  refine (reduced_any (s := s) (((H.out.below ((Below.refl _ _).alloc (Nat.le_refl _) (.cells #[.bool s, .slice A n c, .slice A2 n2 c2] 62))).below ((Below.refl _ _).alloc (Nat.le_refl _) (.cells #[.bool false, .slice none 0 0, .slice none 0 0] 62))).below hb1) (((H2.out.below ((Below.refl _ _).alloc (Nat.le_refl _) (.cells #[.bool s, .slice A n c, .slice A2 n2 c2] 62))).below ((Below.refl _ _).alloc (Nat.le_refl _) (.cells #[.bool false, .slice none 0 0, .slice none 0 0] 62))).below hb1) hy hL1 hL).mono ?_
  rintro e wr ⟨sr, A1, n1, c1, A3, n3, c3, rfl, hs, o1, o2, hbr, l1, l2, hsp⟩
  clear x0 x1 x2
  have HBW := Lib.hid (bt (bt ((Below.refl _ _).alloc (Nat.le_refl _) (.cells #[.bool s, .slice A n c, .slice A2 n2 c2] 62)) ((Below.refl _ _).alloc (Nat.le_refl _) (.cells #[.bool false, .slice none 0 0, .slice none 0 0] 62))) hb1)
  have HB := Lib.hid (bt (bt (bt ((Below.refl _ _).alloc (Nat.le_refl _) (.cells #[.bool s, .slice A n c, .slice A2 n2 c2] 62)) ((Below.refl _ _).alloc (Nat.le_refl _) (.cells #[.bool false, .slice none 0 0, .slice none 0 0] 62))) hb1) hbr)
  have HO := Lib.hid (And.intro o1 o2)
  clear o1 o2
  obtain ⟨c1a, c1b, c1c⟩ := (((Cel.box (i := 0) (v := .bool false) (t := 62) (b := w.heap.size + 1) (World.alloc w (.cells #[.bool s, .slice A n c, .slice A2 n2 c2] 62)) #[.bool false, .slice none 0 0, .slice none 0 0] rfl (by simp)).below hb1).below hbr)
  obtain ⟨c2a, c2b, c2c⟩ := (((Cel.box (i := 1) (v := .slice none 0 0) (t := 62) (b := w.heap.size + 1) (World.alloc w (.cells #[.bool s, .slice A n c, .slice A2 n2 c2] 62)) #[.bool false, .slice none 0 0, .slice none 0 0] rfl (by simp)).below hb1).below hbr)
  obtain ⟨c3a, c3b, c3c⟩ := (((Cel.box (i := 2) (v := .slice none 0 0) (t := 62) (b := w.heap.size + 1) (World.alloc w (.cells #[.bool s, .slice A n c, .slice A2 n2 c2] 62)) #[.bool false, .slice none 0 0, .slice none 0 0] rfl (by simp)).below hb1).below hbr)
  have hz : w.heap.size + 1 < w1.heap.size := by
    have := hb1.size
    simp at this
    omega
  go_wp2
  refine bodyPost_ret (v := .tuple #[.agg #[.bool sr, .slice A1 n1 c1, .slice A3 n3 c3], .int .i64 0]) (by simp [results, Tryz.results155, go_sem, c1a, c2a, c3a]) rfl ?_
  exact ⟨sr, A1, n1, c1, A3, n3, c3, rfl, hs, (HO.out.1.cells3 hz).mono (by omega), (HO.out.2.cells3 hz).mono (by omega), below_cells3 HB.out (by omega), l1, l2, hsp⟩
theorem qnorm_zero {s : Bool} {A A2 : Option Addr} {n c n2 c2 y L : Nat} {w : World} (h2 : Num w (.slice A2 n2 c2) y L) (hy : y = 0) (hL : L ≤ 268435456) :
    Calls Tryz.prog 155 #[.agg #[.bool s, .slice A n c, .slice A2 n2 c2]] w (Keeps (.tuple #[.agg #[.bool false, .slice none 0 0, .slice none 0 0], .int .i64 1]) w) := by
  have H2 := Lib.hid h2
  clear h2
  go_enter Tryz.func155, Tryz.ntmps155
  have x0 := ((At.boxc (i := 0) (v := .bool s) (t := 62) (b := w.heap.size) w #[.bool s, .slice A n c, .slice A2 n2 c2] rfl (by simp)).below ((Below.refl _ _).alloc (Nat.le_refl _) (.cells #[.bool false, .slice none 0 0, .slice none 0 0] 62))).1
  have x1 := ((At.boxc (i := 1) (v := .slice A n c) (t := 62) (b := w.heap.size) w #[.bool s, .slice A n c, .slice A2 n2 c2] rfl (by simp)).below ((Below.refl _ _).alloc (Nat.le_refl _) (.cells #[.bool false, .slice none 0 0, .slice none 0 0] 62))).1
  have x2 := ((At.boxc (i := 2) (v := .slice A2 n2 c2) (t := 62) (b := w.heap.size) w #[.bool s, .slice A n c, .slice A2 n2 c2] rfl (by simp)).below ((Below.refl _ _).alloc (Nat.le_refl _) (.cells #[.bool false, .slice none 0 0, .slice none 0 0] 62))).1
  go_wp2_with fail
  refine (check_zero (s := s) (u := .slice A n c) ((H2.out.below ((Below.refl _ _).alloc (Nat.le_refl _) (.cells #[.bool s, .slice A n c, .slice A2 n2 c2] 62))).below ((Below.refl _ _).alloc (Nat.le_refl _) (.cells #[.bool false, .slice none 0 0, .slice none 0 0] 62))) hy (by omega)).mono ?_
  rintro e w1 ⟨rfl, hb1⟩
  clear x0 x1 x2
  have HB := Lib.hid (bt (bt ((Below.refl _ _).alloc (Nat.le_refl _) (.cells #[.bool s, .slice A n c, .slice A2 n2 c2] 62)) ((Below.refl _ _).alloc (Nat.le_refl _) (.cells #[.bool false, .slice none 0 0, .slice none 0 0] 62))) hb1)
  obtain ⟨c1a, c1b, c1c⟩ := ((Cel.box (i := 0) (v := .bool false) (t := 62) (b := w.heap.size + 1) (World.alloc w (.cells #[.bool s, .slice A n c, .slice A2 n2 c2] 62)) #[.bool false, .slice none 0 0, .slice none 0 0] rfl (by simp)).below hb1)
  obtain ⟨c2a, c2b, c2c⟩ := ((Cel.box (i := 1) (v := .slice none 0 0) (t := 62) (b := w.heap.size + 1) (World.alloc w (.cells #[.bool s, .slice A n c, .slice A2 n2 c2] 62)) #[.bool false, .slice none 0 0, .slice none 0 0] rfl (by simp)).below hb1)
  obtain ⟨c3a, c3b, c3c⟩ := ((Cel.box (i := 2) (v := .slice none 0 0) (t := 62) (b := w.heap.size + 1) (World.alloc w (.cells #[.bool s, .slice A n c, .slice A2 n2 c2] 62)) #[.bool false, .slice none 0 0, .slice none 0 0] rfl (by simp)).below hb1)
  go_wp2
  refine bodyPost_ret (v := .tuple #[.agg #[.bool false, .slice none 0 0, .slice none 0 0], .int .i64 1]) (by simp [results, Tryz.results155, go_sem, c1a, c2a, c3a]) rfl ?_
  exact ⟨rfl, below_cells3 HB.out (by omega)⟩
theorem ok8_any {s : Bool} {u : Value} {A : Option Addr} {n c y L : Nat} {w : World} (h : Num w (.slice A n c) y L) (hL : L ≤ 1073741824) : Calls Tryz.prog 152 #[.agg #[.bool s, u, .slice A n c]] w (Keeps (.bool (decide (0 < y))) w) := by
  have H := Lib.hid h
  clear h
  go_enter Tryz.func152, Tryz.ntmps152
  go_wp2_with fail
  refine (zero5_any (H.out.below ((Below.refl _ _).alloc (Nat.le_refl _) (.cells #[.bool s, u, .slice A n c] 62))) (by omega)).mono ?_
  rintro e w1 ⟨rfl, hb1⟩
  have HEND : Hid (Below w.heap.size w w1) := (bt ((Below.refl _ _).alloc (Nat.le_refl _) (.cells #[.bool s, u, .slice A n c] 62)) hb1)
  go_wp2
  go_ret
  refine ⟨?_, HEND.out⟩
  rcases Nat.eq_zero_or_pos y with h0 | h0
  · subst h0; rfl
  · simp [show y ≠ 0 by omega, h0]
theorem sign5_zt {A : Option Addr} {n c x L : Nat} {w : World} (h : Num w (.slice A n c) x L) (hx : x = 0) (hL : L ≤ 1073741824) : Calls Tryz.prog 154 #[.agg #[.bool true, .slice A n c]] w (Keeps (.int .i64 0) w) := by
  have H := Lib.hid h
  have HXX := Lib.hid hx
  clear h hx
  go_enter Tryz.func154, Tryz.ntmps154
  go_wp2_with fail
  refine (zero5_any (H.out.below ((Below.refl _ _).alloc (Nat.le_refl _) (.cells #[.bool true, .slice A n c] 60))) (by omega)).mono ?_
  rintro e w1 ⟨rfl, hb1⟩
  have d1 : decide (x = 0) = true := by have := HXX.out; simp; omega
  have x0 := ((At.boxc (i := 0) (v := .bool true) (t := 60) (b := w.heap.size) w #[.bool true, .slice A n c] rfl (by simp)).below hb1).1
  have HEND : Hid (Below w.heap.size w w1) := (bt ((Below.refl _ _).alloc (Nat.le_refl _) (.cells #[.bool true, .slice A n c] 60)) hb1)
  go_wp2
  go_ret
  exact ⟨rfl, HEND.out⟩
theorem sign5_zf {A : Option Addr} {n c x L : Nat} {w : World} (h : Num w (.slice A n c) x L) (hx : x = 0) (hL : L ≤ 1073741824) : Calls Tryz.prog 154 #[.agg #[.bool false, .slice A n c]] w (Keeps (.int .i64 0) w) := by
  have H := Lib.hid h
  have HXX := Lib.hid hx
  clear h hx
  go_enter Tryz.func154, Tryz.ntmps154
  go_wp2_with fail
  refine (zero5_any (H.out.below ((Below.refl _ _).alloc (Nat.le_refl _) (.cells #[.bool false, .slice A n c] 60))) (by omega)).mono ?_
  rintro e w1 ⟨rfl, hb1⟩
  have d1 : decide (x = 0) = true := by have := HXX.out; simp; omega
  have x0 := ((At.boxc (i := 0) (v := .bool false) (t := 60) (b := w.heap.size) w #[.bool false, .slice A n c] rfl (by simp)).below hb1).1
  have HEND : Hid (Below w.heap.size w w1) := (bt ((Below.refl _ _).alloc (Nat.le_refl _) (.cells #[.bool false, .slice A n c] 60)) hb1)
  go_wp2
  go_ret
  exact ⟨rfl, HEND.out⟩
theorem sign5_neg {A : Option Addr} {n c x L : Nat} {w : World} (h : Num w (.slice A n c) x L) (hx : 0 < x) (hL : L ≤ 1073741824) : Calls Tryz.prog 154 #[.agg #[.bool true, .slice A n c]] w (Keeps (.int .i64 (-1)) w) := by
  have H := Lib.hid h
  have HXX := Lib.hid hx
  clear h hx
  go_enter Tryz.func154, Tryz.ntmps154
  go_wp2_with fail
  refine (zero5_any (H.out.below ((Below.refl _ _).alloc (Nat.le_refl _) (.cells #[.bool true, .slice A n c] 60))) (by omega)).mono ?_
  rintro e w1 ⟨rfl, hb1⟩
  have d1 : decide (x = 0) = false := by have := HXX.out; simp; omega
  have x0 := ((At.boxc (i := 0) (v := .bool true) (t := 60) (b := w.heap.size) w #[.bool true, .slice A n c] rfl (by simp)).below hb1).1
  have HEND : Hid (Below w.heap.size w w1) := (bt ((Below.refl _ _).alloc (Nat.le_refl _) (.cells #[.bool true, .slice A n c] 60)) hb1)
  go_wp2
  go_ret
  exact ⟨rfl, HEND.out⟩
theorem sign5_pos {A : Option Addr} {n c x L : Nat} {w : World} (h : Num w (.slice A n c) x L) (hx : 0 < x) (hL : L ≤ 1073741824) : Calls Tryz.prog 154 #[.agg #[.bool false, .slice A n c]] w (Keeps (.int .i64 1) w) := by
  have H := Lib.hid h
  have HXX := Lib.hid hx
  clear h hx
  go_enter Tryz.func154, Tryz.ntmps154
  go_wp2_with fail
  refine (zero5_any (H.out.below ((Below.refl _ _).alloc (Nat.le_refl _) (.cells #[.bool false, .slice A n c] 60))) (by omega)).mono ?_
  rintro e w1 ⟨rfl, hb1⟩
  have d1 : decide (x = 0) = false := by have := HXX.out; simp; omega
  have x0 := ((At.boxc (i := 0) (v := .bool false) (t := 60) (b := w.heap.size) w #[.bool false, .slice A n c] rfl (by simp)).below hb1).1
  have HEND : Hid (Below w.heap.size w w1) := (bt ((Below.refl _ _).alloc (Nat.le_refl _) (.cells #[.bool false, .slice A n c] 60)) hb1)
  go_wp2
  go_ret
  exact ⟨rfl, HEND.out⟩
theorem sign5_any {s : Bool} {A : Option Addr} {n c x L : Nat} {w : World} (h : Num w (.slice A n c) x L) (hL : L ≤ 1073741824) : Calls Tryz.prog 154 #[.agg #[.bool s, .slice A n c]] w (Keeps (.int .i64 (zsgn (sg s x))) w) := by
  rcases Nat.eq_zero_or_pos x with hx | hx
  · have e : zsgn (sg s x) = 0 := by subst hx; cases s <;> rfl
    rw [e]
    cases s
    · exact sign5_zf h hx hL
    · exact sign5_zt h hx hL
  · cases s
    · have e : zsgn (sg false x) = 1 := by have e1 := sg_false x; unfold zsgn; rw [if_neg (by omega), if_neg (by omega)]
      rw [e]; exact sign5_pos h hx hL
    · have e : zsgn (sg true x) = -1 := by have e1 := sg_true x; unfold zsgn; rw [if_neg (by omega), if_pos (by omega)]
      rw [e]; exact sign5_neg h hx hL
theorem s8_any {s : Bool} {u : Value} {A : Option Addr} {n c x L : Nat} {w : World} (h : Num w (.slice A n c) x L) (hL : L ≤ 1073741824) : Calls Tryz.prog 125 #[.agg #[.bool s, .slice A n c, u]] w (Keeps (.int .i64 (zsgn (sg s x))) w) := by
  have H := Lib.hid h
  clear h
  go_enter Tryz.func125, Tryz.ntmps125
  go_wp2_with fail
  refine (sign5_any (s := s) (H.out.below ((Below.refl _ _).alloc (Nat.le_refl _) (.cells #[.bool s, .slice A n c, u] 62))) (by omega)).mono ?_
  rintro e w1 ⟨rfl, hb1⟩
  have HEND : Hid (Below w.heap.size w w1) := (bt ((Below.refl _ _).alloc (Nat.le_refl _) (.cells #[.bool s, .slice A n c, u] 62)) hb1)
  go_wp2
  go_ret
  exact ⟨rfl, HEND.out⟩
theorem zat_of {qs : List Cn} {k : Nat} {q : Cn} (h : qs[k]? = some q) : zat qs k = decide (q.1.natAbs = 0) := by
  unfold zat
  rw [h]
  simp
set_option maxHeartbeats 1000000 in
theorem qtrim_any {A : Option Addr} {n c L : Nat} {qs : List Cn} {w : World} (h : PolyC L w (.slice A n c) qs) (hd : ∀ q ∈ qs, 0 < q.2) (hL : L ≤ 268435456) (hn : n ≤ 1099511627776) :
    Calls Tryz.prog 156 #[.slice A n c] w (fun e w' => ∃ k : Nat, e = .returned (.slice A k c) ∧ Hid (k = tlen (zat qs) n) ∧ Below w.heap.size w w') := by
  have H := Lib.hid h
  have HD := Lib.hid hd
  have HC : n ≤ c := by
    obtain ⟨_, _, _, hs, e, h1, _⟩ := h
    injection e with e1 e2 e3
    subst e1 e2 e3
    exact h1.1.2
  have HNQ : Hid (n = qs.length) := by
    obtain ⟨_, _, _, hs, e, h1, h2, _⟩ := h
    injection e with e1 e2 e3
    subst e1 e2 e3
    exact h2
  clear h hd
  go_enter Tryz.func156, Tryz.ntmps156
  go_wp2
  go_loopw [3] (fun kv wr => ∃ k : Nat, Hid (Below w.heap.size w wr ∧ tlen (zat qs) k = tlen (zat qs) n) ∧ k ≤ n ∧ kv = .int .i64 (k : Int)) (fun kv _ => (intOf kv).toNat)
  case atStart => exact ⟨n, ⟨Below.refl _ _, rfl⟩, Nat.le_refl _, rfl⟩
  case round =>
    obtain ⟨k, hI, hk, rfl⟩ := hrel
    rcases k with _ | k
    · go_wp2
      go_ret
      exact ⟨0, rfl, hI.out.2, hI.out.1⟩
    · obtain ⟨b, off, s, A1, n1, c1, A2, n2, c2, q, e, hb, eq, hs, h0, h1, h2, h3, h4⟩ := (H.out.below hI.out.1).at (i := k) (by have := HNQ.out; omega)
      have HQ := Lib.hid eq
      have HCN := Lib.hid (And.intro h3 h4)
      clear eq h3 h4
      subst e
      have i1 : (0 : Int) ≤ (k : Int) := by omega
      have i2 : (k : Int) < (n : Int) := by omega
      have i3 : (k : Int) + 1 ≤ (c : Int) := by omega
      go_wp2_with fail
      refine (qzero_any (s := s) (x := q.1.natAbs) (y := q.2) (L := L) ⟨_, _, _, _, rfl, HCN.out.1.1, dg_all W_gt _, dg_val W_gt _, HCN.out.1.2⟩ ⟨_, _, _, _, rfl, HCN.out.2.1, dg_all W_gt _, dg_val W_gt _, HCN.out.2.2⟩ (HD.out q (List.mem_of_getElem? HQ.out)) (by omega)).mono ?_
      rintro e w1 ⟨rfl, hb1⟩
      clear h0 h1 h2
      have HB1 := Lib.hid (bt hI.out.1 hb1)
      clear hb1
      rcases Nat.eq_zero_or_pos q.1.natAbs with hz | hz
      · have hT : Hid (tlen (zat qs) k = tlen (zat qs) n) := by
          rw [← hI.out.2]
          show _ = if zat qs k then tlen (zat qs) k else k + 1
          rw [if_pos (by rw [zat_of HQ.out]; exact decide_eq_true hz)]
        rw [decide_eq_true hz]
        go_wp2
        go_roundw
        case rel => exact ⟨k, ⟨HB1.out, hT.out⟩, by omega, by go_num⟩
        case measure => simp [intOf]
      · have hT : Hid (k + 1 = tlen (zat qs) n) := by
          rw [← hI.out.2]
          show _ = if zat qs k then tlen (zat qs) k else k + 1
          rw [if_neg (by rw [zat_of HQ.out, decide_eq_false (by omega)]; simp)]
        rw [decide_eq_false (by omega)]
        go_wp2
        go_ret
        exact ⟨k + 1, rfl, hT.out, HB1.out⟩
theorem elRat : ElemK Tryz.prog 46 62 (.agg #[.bool false, .slice none 0 0, .slice none 0 0]) 3 56 := ⟨⟨Tryz.underlying46, by kernel_rfl⟩, rfl, by omega, by omega⟩
theorem PolyC.take {A : Option Addr} {n c L k : Nat} {qs : List Cn} {w : World} (h : PolyC L w (.slice A n c) qs) (hk : k ≤ n) : PolyC L w (.slice A k c) (qs.take k) := by
  obtain ⟨_, _, _, hs, e, h1, h2, h3⟩ := h
  injection e with e1 e2 e3
  subst e1 e2 e3
  have h4 := h1.upto hk
  rw [flat3_take hrv hrv_len] at h4
  exact ⟨A, k, c, hs.take k, rfl, h4, by rw [List.length_take]; omega, h3.take k⟩
/-- in its own form, the call's own -/
def CanO (B L : Nat) (w : World) (h : Hr) (q : Cn) : Prop :=
  h.1 = decide (q.1 < 0) ∧ (Own .u64 41 B w h.2.1.1 h.2.1.2.1 h.2.1.2.2 (dg W q.1.natAbs) ∧ h.2.1.2.1 ≤ L) ∧ Own .u64 41 B w h.2.2.1 h.2.2.2.1 h.2.2.2.2 (dg W q.2) ∧ h.2.2.2.1 ≤ L
/-- .. in the blocks of S, all parts in places of their own -/
def PolyS (S : Nat → Prop) (B L : Nat) (w : World) (v : Value) (qs : List Cn) : Prop := ∃ A n c hs, v = .slice A n c ∧ RowK 3 62 B w A n c (hs.flatMap hrv) ∧ n = qs.length ∧ All2 (CanO B L w) hs qs ∧ AptH hs ∧ InS S A hs
abbrev PolyO (B L : Nat) (w : World) (v : Value) (qs : List Cn) : Prop := PolyS (fun _ => True) B L w v qs
section
variable {S : Nat → Prop} {B B' L : Nat} {w w' : World} {h : Hr} {q : Cn} {v : Value} {qs : List Cn}
theorem CanO.can (H : CanO B L w h q) : CanR L w h q := ⟨H.1, ⟨H.2.1.1.rd, H.2.1.2⟩, H.2.2.1.rd, H.2.2.2⟩
theorem CanO.below (H : CanO B L w h q) (hb : Below w.heap.size w w') : CanO B L w' h q := ⟨H.1, ⟨H.2.1.1.below hb, H.2.1.2⟩, H.2.2.1.below hb, H.2.2.2⟩
theorem CanO.mono (H : CanO B L w h q) (hB : B' ≤ B) : CanO B' L w h q := ⟨H.1, ⟨H.2.1.1.mono hB, H.2.1.2⟩, H.2.2.1.mono hB, H.2.2.2⟩
theorem CanO.grown {T : TypeId} {s m : Nat} {vs : List Value} {u : Value} (H : CanO B L w h q) (hr : w.ownsRow B T s u m vs) (hne : 41 ≠ T) (hg : w.grownBy w' u.ownBlock) : CanO B L w' h q := ⟨H.1, ⟨H.2.1.1.other hr hne hg, H.2.1.2⟩, H.2.2.1.other hr hne hg, H.2.2.2⟩
theorem PolyS.c (H : PolyS S B L w v qs) : PolyC L w v qs := by
  obtain ⟨A, n, c, hs, rfl, h1, h2, h3, _⟩ := H
  exact ⟨A, n, c, hs, rfl, h1.rd, h2, h3.imp fun _ _ e => e.can⟩
theorem PolyS.below (H : PolyS S B L w v qs) (hb : Below w.heap.size w w') : PolyS S B L w' v qs := by
  obtain ⟨A, n, c, hs, rfl, h1, h2, h3, h4⟩ := H
  exact ⟨A, n, c, hs, rfl, h1.below hb, h2, h3.imp fun _ _ e => e.below hb, h4⟩
theorem PolyS.mono (H : PolyS S B L w v qs) (hB : B' ≤ B) : PolyS S B' L w v qs := by
  obtain ⟨A, n, c, hs, rfl, h1, h2, h3, h4⟩ := H
  exact ⟨A, n, c, hs, rfl, h1.mono hB, h2, h3.imp fun _ _ e => e.mono hB, h4⟩
theorem CanO.lies (H : CanO B L w h q) : ∀ o ∈ hnums h, ∀ a, o = some a → B ≤ a.block ∧ a.block < w.heap.size := by
  intro o ho a e
  simp [hnums] at ho
  rcases ho with rfl | rfl
  · exact H.2.1.1.lies a e
  · exact H.2.2.1.lies a e
theorem All2.left {α β : Type} {P : α → β → Prop} {hs : List α} {rs : List β} (H : All2 P hs rs) {h : α} (hm : h ∈ hs) : ∃ r, P h r := by
  obtain ⟨i, hi, e⟩ := List.getElem_of_mem hm
  exact ⟨rs[i]'(by rw [← H.1]; exact hi), H.2 i h _ (by rw [List.getElem?_eq_getElem hi, e]) (List.getElem?_eq_getElem _)⟩
/-- the blocks of it lie where memory is -/
theorem PolyS.cut (H : PolyS S B L w v qs) : PolyS (fun b => S b ∧ B ≤ b ∧ b < w.heap.size) B L w v qs := by
  obtain ⟨A, n, c, hs, rfl, h1, h2, h3, h4, h5⟩ := H
  refine ⟨A, n, c, hs, rfl, h1, h2, h3, h4, fun a e => ⟨h5.1 a e, h1.lies a e⟩, fun h hh o ho a e => ⟨h5.2 h hh o ho a e, ?_⟩⟩
  obtain ⟨q, hc⟩ := h3.left hh
  exact hc.lies o ho a e
theorem PolyS.sub {T : Nat → Prop} (H : PolyS S B L w v qs) (hST : ∀ b, S b → T b) : PolyS T B L w v qs := by
  obtain ⟨A, n, c, hs, rfl, h1, h2, h3, h4, h5⟩ := H
  exact ⟨A, n, c, hs, rfl, h1, h2, h3, h4, h5.mono hST⟩
theorem PolyS.o (H : PolyS S B L w v qs) : PolyO B L w v qs := H.sub fun _ _ => trivial
theorem PolyS.take {A : Option Addr} {n c k : Nat} (H : PolyS S B L w (.slice A n c) qs) (hk : k ≤ n) : PolyS S B L w (.slice A k c) (qs.take k) := by
  obtain ⟨_, _, _, hs, e, h1, h2, h3, h4, h5⟩ := H
  injection e with e1 e2 e3
  subst e1 e2 e3
  rcases Nat.eq_zero_or_pos n with h0 | h0
  · obtain rfl : k = 0 := by omega
    subst h0
    exact ⟨A, 0, c, hs.take 0, rfl, (by have h5 : hs = [] := List.eq_nil_of_length_eq_zero (by rw [h3.1]; exact h2.symm); subst h5; simpa using h1), by simp, h3.take 0, h4.take 0, h5.take 0⟩
  · have h6 := h1.upto hk h0
    rw [flat3_take hrv hrv_len] at h6
    exact ⟨A, k, c, hs.take k, rfl, h6, by rw [List.length_take]; omega, h3.take k, h4.take k, h5.take k⟩
end
/-- what qpoly.Norm answers -/
def GQ (w : World) (L : Nat) (rs : List Cf) (e : Ending) (w' : World) : Prop :=
  (∃ v, e = .returned (.tuple #[v, .int .i64 0]) ∧ Hid (∀ r ∈ rs, 0 < r.2.2) ∧ PolyO w.heap.size L w' v (pn rs) ∧ Below w.heap.size w w') ∨ (e = .returned (.tuple #[.slice none 0 0, .int .i64 1]) ∧ Hid (∃ r ∈ rs, r.2.2 = 0) ∧ Below w.heap.size w w')
theorem nrm_pos {r : Cf} (h : 0 < r.2.2) : 0 < (nrm r).2 := Nat.div_pos (Nat.le_of_dvd h (Nat.gcd_dvd_right _ _)) (Nat.gcd_pos_of_pos_right _ h)
theorem take_snoc {α : Type} {l : List α} {i : Nat} {x : α} (h : l[i]? = some x) : l.take (i + 1) = l.take i ++ [x] := by
  obtain ⟨hi, e⟩ := List.getElem?_eq_some_iff.1 h
  rw [List.take_succ_eq_append_getElem hi, e]
/-- the loops' relation: i coefficients are in their own form -/
def NI (w : World) (L : Nat) (rs : List Cf) (i : Nat) (A' : Option Addr) (c' : Nat) (wr : World) : Prop :=
  (∃ hs : List Hr, RowK 3 62 w.heap.size wr A' i c' (hs.flatMap hrv) ∧ All2 (CanO w.heap.size L wr) hs ((rs.take i).map nrm) ∧ AptH hs) ∧ (∀ r ∈ rs.take i, 0 < r.2.2) ∧ Below w.heap.size w wr
theorem NI.below {w wr w' : World} {L i c' : Nat} {rs : List Cf} {A' : Option Addr} (h : NI w L rs i A' c' wr) (hb : Below wr.heap.size wr w') : NI w L rs i A' c' w' := by
  obtain ⟨⟨hs, h1, h2, hp⟩, h3, h4⟩ := h
  exact ⟨⟨hs, h1.below hb, h2.imp fun _ _ e => e.below hb, hp⟩, h3, bt h4 hb⟩
theorem NI.grown {w w' : World} {L i c2 : Nat} {rs : List Cf} {A2 : Option Addr} {hs : List Hr} {h : Hr} {r : Cf} (ho : RowK 3 62 w.heap.size w' A2 (i + 1) c2 (hs.flatMap hrv ++ hrv h)) (h2 : All2 (CanO w.heap.size L w') hs ((rs.take i).map nrm)) (hc : CanO w.heap.size L w' h (nrm r)) (h3 : ∀ r ∈ rs.take i, 0 < r.2.2) (hr : rs[i]? = some r) (hp : 0 < r.2.2) (hb : Below w.heap.size w w') (hap : AptH (hs ++ [h])) : NI w L rs (i + 1) A2 c2 w' := by
  refine ⟨⟨hs ++ [h], by simpa using ho, ?_, hap⟩, ?_, hb⟩
  · rw [take_snoc hr, List.map_append]
    exact h2.snoc hc
  · rw [take_snoc hr]
    intro r' hm
    rcases List.mem_append.1 hm with hm | hm
    · exact h3 r' hm
    · simp at hm; subst hm; exact hp
theorem NI.poly {w wr : World} {L i c' : Nat} {rs : List Cf} {A' : Option Addr} (h : NI w L rs i A' c' wr) (hi : i = rs.length) : PolyO w.heap.size L wr (.slice A' i c') (rs.map nrm) := by
  obtain ⟨⟨hs, h1, h2, hp⟩, h3, h4⟩ := h
  rw [List.take_of_length_le (by omega)] at h2
  exact ⟨A', i, c', hs, rfl, h1, by rw [List.length_map]; exact hi, h2, hp, InS.true⟩
/-- a new number behind others -/
theorem NI.apart {w wr : World} {L U U' : Nat} {rs : List Cf} {hs : List Hr} {h : Hr} (h2 : All2 (CanO w.heap.size L wr) hs (rs.map nrm)) (hp : AptH hs) (h1 : SepA h.2.1.1 h.2.2.1) (hU : wr.heap.size ≤ U) (h3 : Lies h.2.1.1 U U') (h4 : Lies h.2.2.1 U U') : AptH (hs ++ [h]) := by
  refine hp.snoc h1 fun g hg o ho => ?_
  obtain ⟨q, hc⟩ := h2.left hg
  have hl := hc.lies o ho
  exact ⟨fun x y e1 e2 => by have := hl x e1; have := h3 y e2; omega, fun x y e1 e2 => by have := hl x e1; have := h4 y e2; omega⟩
set_option maxHeartbeats 4000000 in
theorem qpnorm_any {A : Option Addr} {n c L : Nat} {rs : List Cf} {w : World} (h : PolyI L w (.slice A n c) rs) (hL1 : 1 ≤ L) (hL : L ≤ 268435456) (hn : n ≤ 1073741824) :
    Calls Tryz.prog 126 #[.slice A n c] w (GQ w L rs) := by
  have H := Lib.hid h
  have HNQ : Hid (n = rs.length) := by
    obtain ⟨_, _, _, hs, e, h1, h2, _⟩ := h
    injection e with e1 e2 e3
    subst e1 e2 e3
    exact h2
  clear h
  have HEL := Lib.hid elRat
  go_enter Tryz.func126, Tryz.ntmps126
  go_wp2
  go_loopw [4, 11] (fun ov kv wr => ∃ (i : Nat) (A' : Option Addr) (c' : Nat), Hid (NI w L rs i A' c' wr) ∧ i ≤ n ∧ ov = .slice A' i c' ∧ kv = .int .i64 (i : Int)) (fun _ kv _ => n - (intOf kv).toNat)
  case atStart => exact ⟨0, none, 0, ⟨⟨[], RowK.nil, by simpa using All2.nil, AptH.nil⟩, by simp, Below.refl _ _⟩, Nat.zero_le _, rfl, rfl⟩
  case round =>
    obtain ⟨i, A', c', hI, hi, rfl, rfl⟩ := hrel
    by_cases hlt : i < n
    · obtain ⟨b, off, s, A1, n1, c1, A2, n2, c2, r, e, hb, eq, hsr, h0, h1, h2, h3, h4⟩ := (H.out.below hI.out.2.2).at (i := i) (by have := HNQ.out; omega)
      have HQ := Lib.hid eq
      have HCN := Lib.hid (And.intro h3 h4)
      clear eq h3 h4
      subst e
      obtain rfl := hsr.out
      clear hsr
      have i1 : (0 : Int) ≤ (i : Int) := by omega
      have i2 : (i : Int) < (n : Int) := by omega
      have NW := Lib.hid (hI.out.below ((Below.refl _ _).alloc (Nat.le_refl _) (.cells #[.bool r.1, .slice A1 n1 c1, .slice A2 n2 c2] 62)))
      rcases Nat.eq_zero_or_pos r.2.2 with hz | hz
      · go_wp2_with fail
        refine (qnorm_zero (s := r.1) (A := A1) (n := n1) (c := c1) (HCN.out.2.below ((Below.refl _ _).alloc (Nat.le_refl _) (.cells #[.bool r.1, .slice A1 n1 c1, .slice A2 n2 c2] 62))) hz hL).mono ?_
        rintro e w1 ⟨rfl, hb1⟩
        have HB := Lib.hid (bt hI.out.2.2 (bt ((Below.refl _ _).alloc (Nat.le_refl _) (.cells #[.bool r.1, .slice A1 n1 c1, .slice A2 n2 c2] 62)) hb1))
        clear h0 h1 h2
        go_wp2
        go_ret2
        exact .inr ⟨rfl, ⟨r, List.mem_of_getElem? HQ.out, hz⟩, HB.out.alloc (by have := HB.out.size; omega) _⟩
      · go_wp2_with fail
        refine (qnorm_any (s := r.1) (HCN.out.1.below ((Below.refl _ _).alloc (Nat.le_refl _) (.cells #[.bool r.1, .slice A1 n1 c1, .slice A2 n2 c2] 62))) (HCN.out.2.below ((Below.refl _ _).alloc (Nat.le_refl _) (.cells #[.bool r.1, .slice A1 n1 c1, .slice A2 n2 c2] 62))) hz hL1 hL).mono ?_
        rintro e w1 ⟨sr, B1, m1, d1, B2, m2, d2, rfl, hs, o1, o2, hbr, l1, l2, hsp⟩
        clear h0 h1 h2
        have HW0 : w.heap.size ≤ (World.alloc wr (.cells #[.bool r.1, .slice A1 n1 c1, .slice A2 n2 c2] 62)).heap.size := by have := hI.out.2.2.size; simp; omega
        have HB := Lib.hid (bt hI.out.2.2 (bt ((Below.refl _ _).alloc (Nat.le_refl _) (.cells #[.bool r.1, .slice A1 n1 c1, .slice A2 n2 c2] 62)) hbr))
        have NW1 := Lib.hid (NW.out.below hbr)
        have HCR : Hid (CanO w.heap.size L w1 (sr, (B1, m1, d1), (B2, m2, d2)) (nrm r)) := ⟨hs.out, ⟨o1.mono HW0, l1⟩, o2.mono HW0, l2⟩
        obtain ⟨⟨hs', q1, q2, qp⟩, k3, q4⟩ := NW.out
        have HAP : Hid (AptH (hs' ++ [(sr, (B1, m1, d1), (B2, m2, d2))])) := NI.apart q2 qp hsp (Nat.le_refl _) o1.lies o2.lies
        have k1 := q1.below hbr
        have k2 := q2.imp fun _ _ e => e.below hbr
        clear o1 o2 hbr hs NW q1 q2 q4
        have HK := Lib.hid k1
        have HK2 := Lib.hid k2
        have HK3 := Lib.hid k3
        have HZ : Hid (w.heap.size ≤ w1.heap.size) := HB.out.size
        clear k1 k2 k3 NW1
        go_wp2_with (at_builtin; (refine wpList_appK rfl (.tmp 23) (.tmp 25) rfl HEL.out (B := w.heap.size) (us := [.bool sr, .slice B1 m1 d1, .slice B2 m2 d2]) rfl rfl ((HK.out.below (belowA _ _)).below (belowA _ _)) (RowK.lit (k := 3) (T := 62) (B := 0) (World.alloc w1 (.cells #[.bool sr, .slice B1 m1 d1, .slice B2 m2 d2] 62)) 1 [.bool sr, .slice B1 m1 d1, .slice B2 m2 d2] (by simp) rfl (by omega) (Nat.zero_le _)).rd (by simp [Value.oneCell']) (by omega) (by omega) (by have := HZ.out; simp; omega) ?_); intro A4 c4 w4 ho hb4 hg4; have HN : Hid (NI w L rs (i + 1) A4 c4 w4) := NI.grown (hs := hs') (h := (sr, (B1, m1, d1), (B2, m2, d2))) ho (HK2.out.imp fun _ _ e => ((e.below (belowA _ _)).below (belowA _ _)).grown ((HK.out.below (belowA _ _)).below (belowA _ _)) (by decide) hg4) (((HCR.out.below (belowA _ _)).below (belowA _ _)).grown ((HK.out.below (belowA _ _)).below (belowA _ _)) (by decide) hg4) HK3.out HQ.out hz (((HB.out.alloc (by have := HB.out.size; omega) _).alloc (by have := HB.out.size; simp; omega) _).trans hb4) HAP.out; clear ho hb4 hg4)
        go_roundw
        case rel => exact ⟨i + 1, A4, c4, HN, by omega, rfl, by go_num⟩
        case measure => simp [intOf]; omega
    · obtain rfl : i = n := by omega
      have HP := Lib.hid (hI.out.poly HNQ.out)
      have HB := Lib.hid hI.out.2.2
      have HAL : Hid (∀ r ∈ rs, 0 < r.2.2) := fun r hr => hI.out.2.1 r (by rw [List.take_of_length_le (by have := HNQ.out; omega)]; exact hr)
      go_wp2_with fail
      refine (qtrim_any HP.out.c (fun q hq => by obtain ⟨r, h1, h2⟩ := List.mem_map.1 hq; subst h2; exact nrm_pos (HAL.out r h1)) hL (by omega)).mono ?_
      rintro e w1 ⟨k, rfl, hk, hb1⟩
      have HPO : Hid (PolyO w.heap.size L w1 (.slice A' k c') (pn rs)) := by
        have h1 := (HP.out.below hb1).take (k := k) (by rw [hk.out]; exact tlen_le _ _)
        have h2 : (rs.map nrm).take k = pn rs := by rw [hk.out, HNQ.out]; unfold pn ptrim; rw [List.length_map]
        rw [← h2]; exact h1
      have HB1 := Lib.hid (bt HB.out hb1)
      clear hk hb1 hI HP HB
      go_wp2
      go_ret2
      exact .inl ⟨_, rfl, HAL.out, HPO.out, HB1.out⟩
end Go.Proofs.YtamfhmmcnlollaaGreat
namespace Go.Proofs.YtamfhmmcnlollaaGreat
open Go.RowKit
set_option linter.unusedVariables false

theorem cell_kb {B : Nat} {w : World} {p : Addr} {v : Value} (h : w.cell? p = some v) (hp : p.block < B) (hl : p.block < w.heap.size) : ∀ w', KB B w.drew w' → w'.cell? p = some v := fun w' g => (g.cell (p := p) hp hl).trans h
theorem PolyI.len {A : Option Addr} {n c L : Nat} {rs : List Cf} {w : World} (h : PolyI L w (.slice A n c) rs) : n = rs.length := by
  obtain ⟨_, _, _, hs, e, h1, h2, _⟩ := h
  injection e with e1 e2 e3
  subst e1 e2 e3
  exact h2
theorem PolyS.len {S : Nat → Prop} {A : Option Addr} {n c L B : Nat} {qs : List Cn} {w : World} (h : PolyS S B L w (.slice A n c) qs) : n = qs.length ∧ n ≤ c := by
  obtain ⟨_, _, _, hs, e, h1, h2, _⟩ := h
  injection e with e1 e2 e3
  subst e1 e2 e3
  exact ⟨h2, h1.cap⟩
set_option maxHeartbeats 2000000 in
theorem good10_any {A : Option Addr} {n c L : Nat} {rs : List Cf} {w : World} (h : PolyI L w (.slice A n c) rs) (hL : L ≤ 268435456) (hn : n ≤ 1073741824) :
    Calls Tryz.prog 121 #[.slice A n c] w (Keeps (.bool (rs.all fun r => decide (0 < r.2.2))) w) := by
  have H := Lib.hid h
  have HNQ : Hid (n = rs.length) := h.len
  clear h
  go_enter Tryz.func121, Tryz.ntmps121
  go_wp2
  go_loopw [3] (fun kv wr => ∃ (i : Nat), Hid (Below w.heap.size w wr ∧ ∀ r ∈ rs.take i, 0 < r.2.2) ∧ i ≤ n ∧ kv = .int .i64 (i : Int)) (fun kv _ => n - (intOf kv).toNat)
  case atStart => exact ⟨0, ⟨Below.refl _ _, by simp⟩, Nat.zero_le _, rfl⟩
  case round =>
    obtain ⟨i, hI, hi, rfl⟩ := hrel
    by_cases hlt : i < n
    · obtain ⟨b, off, s, A1, n1, c1, A2, n2, c2, r, e, hb, eq, hsr, h0, h1, h2, h3, h4⟩ := (H.out.below hI.out.1).at (i := i) (by have := HNQ.out; omega)
      have HQ := Lib.hid eq
      have HCN := Lib.hid h4
      clear eq h3 h4 hsr
      subst e
      have i1 : (0 : Int) ≤ (i : Int) := by omega
      have i2 : (i : Int) < (n : Int) := by omega
      go_wp2_with fail
      refine (ok8_any (s := s) (u := .slice A1 n1 c1) HCN.out (by omega)).mono ?_
      rintro e w1 ⟨rfl, hb1⟩
      clear h0 h1 h2
      have HB := Lib.hid (bt hI.out.1 hb1)
      rcases Nat.eq_zero_or_pos r.2.2 with hz | hz
      · have HF : Hid ((rs.all fun r => decide (0 < r.2.2)) = false) := by
          show _ = false
          rw [List.all_eq_false]
          exact ⟨r, List.mem_of_getElem? HQ.out, by simp; omega⟩
        rw [decide_eq_false (by omega)]
        go_wp2
        go_ret
        exact ⟨by rw [HF.out]; rfl, HB.out⟩
      · have HN : Hid (Below w.heap.size w w1 ∧ ∀ r ∈ rs.take (i + 1), 0 < r.2.2) := by
          refine ⟨HB.out, fun r' hm => ?_⟩
          rw [take_snoc HQ.out] at hm
          rcases List.mem_append.1 hm with hm | hm
          · exact hI.out.2 r' hm
          · simp at hm; subst hm; exact hz
        rw [decide_eq_true hz]
        go_wp2
        go_roundw
        case rel => exact ⟨i + 1, HN, by omega, by go_num⟩
        case measure => simp [intOf]; omega
    · obtain rfl : i = n := by omega
      have HT : Hid ((rs.all fun r => decide (0 < r.2.2)) = true) := by
        show _ = true
        rw [List.all_eq_true]
        intro r hr
        have := hI.out.2 r (by rw [List.take_of_length_le (by have := HNQ.out; omega)]; exact hr)
        simpa using this
      go_wp2
      go_ret
      exact ⟨by rw [HT.out]; rfl, hI.out.1⟩
def slen : Value → Nat
  | .slice _ n _ => n
  | _ => 0
set_option maxHeartbeats 4000000 in
theorem form10_any {A : Option Addr} {n c L : Nat} {rs : List Cf} {w : World} (h : PolyI L w (.slice A n c) rs) (hp : ∀ r ∈ rs, 0 < r.2.2) (hL1 : 1 ≤ L) (hL : L ≤ 268435456) (hn : n ≤ 1073741824) :
    Calls Tryz.prog 71 #[.slice A n c] w (fun e w' => ∃ v, e = .returned v ∧ PolyO w.heap.size L w' v (pn rs) ∧ Below w.heap.size w w') := by
  have H := Lib.hid h
  have HP := Lib.hid hp
  have HNQ : Hid (n = rs.length) := h.len
  clear h hp
  have HEL := Lib.hid elRat
  go_enter Tryz.func71, Tryz.ntmps71
  go_wp2
  go_loopw [3, 4] (fun ov kv wr => ∃ (i : Nat) (A' : Option Addr) (c' : Nat), Hid (NI w L rs i A' c' wr) ∧ i ≤ n ∧ ov = .slice A' i c' ∧ kv = .int .i64 (i : Int)) (fun _ kv _ => n - (intOf kv).toNat)
  case atStart => exact ⟨0, none, 0, ⟨⟨[], RowK.nil, by simpa using All2.nil, AptH.nil⟩, by simp, Below.refl _ _⟩, Nat.zero_le _, rfl, rfl⟩
  case round =>
    obtain ⟨i, A', c', hI, hi, rfl, rfl⟩ := hrel
    by_cases hlt : i < n
    · obtain ⟨b, off, s, A1, n1, c1, A2, n2, c2, r, e, hb, eq, hsr, h0, h1, h2, h3, h4⟩ := H.out.at (i := i) (by have := HNQ.out; omega)
      have HQ := Lib.hid eq
      have HCN := Lib.hid (And.intro (h3.below hI.out.2.2) (h4.below hI.out.2.2))
      have hz : Hid (0 < r.2.2) := HP.out r (List.mem_of_getElem? eq)
      clear eq h3 h4
      subst e
      obtain rfl := hsr.out
      clear hsr
      have i1 : (0 : Int) ≤ (i : Int) := by omega
      have i2 : (i : Int) < (n : Int) := by omega
      have hbr : b < wr.heap.size := Nat.lt_of_lt_of_le hb hI.out.2.2.size
      have e0 := (hI.out.2.2.cell (p := ⟨b, off + i * 3, none⟩) hb).trans h0
      have e1 := (hI.out.2.2.cell (p := ⟨b, off + i * 3 + 1, none⟩) hb).trans h1
      have e2 := (hI.out.2.2.cell (p := ⟨b, off + i * 3 + 2, none⟩) hb).trans h2
      have k0 := cell_kb e0 hb hbr
      have k1 := cell_kb e1 hb hbr
      have k2 := cell_kb e2 hb hbr
      clear h0 h1 h2
      go_wp2_with fail
      refine wp_region_fltR (KB w.heap.size) (KB.refl _) (KB.trans _) (KB.of_grow _) [(0, 0), (0, 1), (0, 2), (0, 3), (0, 4), (0, 5), (0, 6), (0, 7), (0, 8), (0, 9), (0, 10), (3, 11), (3, 12), (3, 13), (0, 14)] (by kernel_rfl) (by kernel_rfl) ?_
      repeat (refine flt_pas (by rfl) (fun K hK => ?_); go_simp; refine hK _ _ (fun w' hw' => (by first | (go_simp; done) | (go_simp; intro hh; cases hh))) ?_; clear hK K)
      (refine flt_callX (by rfl) (fun K hK => ?_); go_simp; refine hK _ _ ?_; clear hK K)
      refine (ref8R_any (s := r.1) (HCN.out.1.below (Below.refl _ _).drew) (HCN.out.2.below (Below.refl _ _).drew) hz.out hL1 hL).mono ?_
      rintro e w1 ⟨sr, B1, m1, d1, B2, m2, d2, rfl, hs, o1, o2, hbr1, l1, l2, hsp⟩
      have HW0 : Hid (w.heap.size ≤ wr.heap.size) := hI.out.2.2.size
      refine ⟨_, rfl, KB.of_below hbr1, ?_⟩
      (refine flt_norm (fun K hK => ?_); go_simp; refine hK _ ?_; clear hK K)
      clear k0 k1 k2 e0 e1 e2
      have HB := Lib.hid (hI.out.2.2.drew.trans (hbr1.mono HW0.out))
      obtain ⟨⟨hs', q1, q2, qp⟩, k3, q4⟩ := hI.out.below (Below.refl _ _).drew
      have HAP : Hid (AptH (hs' ++ [(sr, (B1, m1, d1), (B2, m2, d2))])) := NI.apart q2 qp hsp (Nat.le_refl _) o1.lies o2.lies
      have k1 := q1.below hbr1
      have k2 := q2.imp fun _ _ e => e.below hbr1
      have HCR : Hid (CanO w.heap.size L w1 (sr, (B1, m1, d1), (B2, m2, d2)) (nrm r)) := ⟨hs.out, ⟨o1.mono HW0.out, l1⟩, o2.mono HW0.out, l2⟩
      clear o1 o2 hs hbr1 q1 q2 q4
      have HK := Lib.hid k1
      have HK2 := Lib.hid k2
      have HK3 := Lib.hid k3
      have HZ : Hid (w.heap.size ≤ w1.heap.size) := HB.out.size
      clear k1 k2 k3
      (refine flt_actX (by rfl) (fun K hK => ?_); go_simp)
      refine hK _ _ ⟨KB.of_below (belowA _ _), ?_⟩
      clear hK K
      (refine flt_norm (fun K hK => ?_); go_simp; refine hK _ ?_; clear hK K)
      refine flt_appK (.tmp 11) (.tmp 23) (by rfl) rfl rfl HEL.out (B := w.heap.size) (us := [.bool sr, .slice B1 m1 d1, .slice B2 m2 d2]) rfl rfl (HK.out.below (belowA _ _)) (RowK.lit (k := 3) (T := 62) (B := 0) w1 1 [.bool sr, .slice B1 m1 d1, .slice B2 m2 d2] (by simp) rfl (by omega) (Nat.zero_le _)).rd (by simp [Value.oneCell']) (by omega) (by omega) (by have := HZ.out; simp; omega) (fun w' h _ => KB.of_le h (Nat.le_refl _)) (fun A4 c4 w4 ho hb4 hg4 => ?_)
      have HN : Hid (NI w L rs (i + 1) A4 c4 w4) := NI.grown (hs := hs') (h := (sr, (B1, m1, d1), (B2, m2, d2))) ho (HK2.out.imp fun _ _ e => (e.below (belowA _ _)).grown (HK.out.below (belowA _ _)) (by decide) hg4) ((HCR.out.below (belowA _ _)).grown (HK.out.below (belowA _ _)) (by decide) hg4) HK3.out HQ.out hz.out ((HB.out.alloc HB.out.size _).trans hb4) HAP.out
      clear ho hb4 hg4
      (refine flt_norm (fun K hK => ?_); go_simp; refine hK _ ?_; clear hK K)
      repeat (refine flt_pas (by rfl) (fun K hK => ?_); go_simp; refine hK _ _ (fun w' hw' => (by first | (go_simp; done) | (go_simp; intro hh; cases hh))) ?_; clear hK K)
      refine flt_nil ?_
      go_wp2
      go_roundw
      case rel => exact ⟨i + 1, A4, c4, HN, by omega, rfl, by go_num⟩
      case measure => simp [intOf]; omega
    · obtain rfl : i = n := by omega
      obtain ⟨wd, rfl⟩ : ∃ wd : World, wd = wr := ⟨_, rfl⟩
      have HPo := Lib.hid (hI.out.poly HNQ.out)
      have HB := Lib.hid hI.out.2.2
      have HCC : i ≤ c' := HPo.out.len.2
      have HLM : Hid ((rs.map nrm).length = i) := by rw [List.length_map]; exact HNQ.out.symm
      have HD : Hid (∀ q ∈ rs.map nrm, 0 < q.2) := fun q hq => by obtain ⟨r, h1, h2⟩ := List.mem_map.1 hq; subst h2; exact nrm_pos (HP.out r h1)
      clear hI
      go_wp2
      go_loopw [3] (fun ov wr => ∃ k : Nat, Hid (Below wd.heap.size wd wr ∧ tlen (zat (rs.map nrm)) k = tlen (zat (rs.map nrm)) i) ∧ k ≤ i ∧ ov = .slice A' k c') (fun ov _ => slen ov)
      case atStart => exact ⟨i, ⟨Below.refl _ _, rfl⟩, Nat.le_refl _, rfl⟩
      case round =>
        obtain ⟨k, hI, hk, rfl⟩ := hrel
        have HEND : ∀ (k : Nat) (w5 : World), k = tlen (zat (rs.map nrm)) i → Below wd.heap.size wd w5 → PolyO w.heap.size L w5 (.slice A' k c') (pn rs) ∧ Below w.heap.size w w5 := fun k w5 hk5 hb5 => by
          have h1 := (HPo.out.below hb5).take (k := k) (by rw [hk5]; exact tlen_le _ _)
          have h2 : (rs.map nrm).take k = pn rs := by rw [hk5]; unfold pn ptrim; rw [HLM.out]
          rw [h2] at h1
          exact ⟨h1, bt HB.out hb5⟩
        have HEND := Lib.hid HEND
        rcases k with _ | k
        · go_wp2
          go_ret
          obtain ⟨h1, h2⟩ := HEND.out 0 _ hI.out.2 hI.out.1
          exact ⟨_, rfl, h1, h2⟩
        · obtain ⟨b, off, s, A1, n1, c1, A2, n2, c2, q, e, hb, eq, hs, h0, h1, h2, h3, h4⟩ := (HPo.out.c.below hI.out.1).at (i := k) (by have := HLM.out; omega)
          have HQ := Lib.hid eq
          have HCN := Lib.hid (And.intro h3 h4)
          clear eq h3 h4
          subst e
          have i1 : (0 : Int) ≤ (k : Int) := by omega
          have i2 : (k : Int) < (k : Int) + 1 := by omega
          have i3 : (k : Int) + 1 ≤ (c' : Int) := by omega
          have i4 : (k : Int) ≤ (c' : Int) := by omega
          go_wp2_with fail
          refine (s8_any (s := s) (x := q.1.natAbs) (L := L) (u := .slice A2 n2 c2) ⟨_, _, _, _, rfl, HCN.out.1.1, dg_all W_gt _, dg_val W_gt _, HCN.out.1.2⟩ (by omega)).mono ?_
          rintro e w1 ⟨rfl, hb1⟩
          clear h0 h1 h2
          have HB1 := Lib.hid (bt hI.out.1 hb1)
          clear hb1
          rcases Nat.eq_zero_or_pos q.1.natAbs with hz | hz
          · have hT : Hid (tlen (zat (rs.map nrm)) k = tlen (zat (rs.map nrm)) i) := by
              rw [← hI.out.2]
              show _ = if zat (rs.map nrm) k then tlen (zat (rs.map nrm)) k else k + 1
              rw [if_pos (by rw [zat_of HQ.out]; exact decide_eq_true hz)]
            have hsg : zsgn (sg s q.1.natAbs) = 0 := by rw [hz]; cases s <;> rfl
            rw [hsg]
            go_wp2
            go_roundw
            case rel => exact ⟨k, ⟨HB1.out, hT.out⟩, by omega, by simp⟩
            case measure => simp [slen]
          · have hT : Hid (k + 1 = tlen (zat (rs.map nrm)) i) := by
              rw [← hI.out.2]
              show _ = if zat (rs.map nrm) k then tlen (zat (rs.map nrm)) k else k + 1
              rw [if_neg (by rw [zat_of HQ.out, decide_eq_false (by omega)]; simp)]
            have hsg : (zsgn (sg s q.1.natAbs) == 0) = false := by
              have h1 := sg_abs s q.1.natAbs
              have : sg s q.1.natAbs ≠ 0 := by omega
              unfold zsgn
              rw [if_neg this]
              split <;> rfl
            generalize zsgn (sg s q.1.natAbs) = zz at hsg ⊢
            go_wp2
            go_ret
            obtain ⟨h1, h2⟩ := HEND.out (k + 1) _ hT.out HB1.out
            exact ⟨_, rfl, h1, h2⟩
end Go.Proofs.YtamfhmmcnlollaaGreat
namespace Go.Proofs.YtamfhmmcnlollaaGreat
open Go.RowKit
set_option linter.unusedVariables false

theorem nb_top {ys : List Nat} {y : Nat} (hys : All W ys) (hy : 0 < y) : nb (val W (ys ++ [y])) = 64 * ys.length + nb y := by
  obtain ⟨b1, b3⟩ := nb_le hy
  have b2 := nb_lt y
  have l := val_lt hys
  rw [W_pow2] at l
  have hval : val W (ys ++ [y]) = val W ys + 2 ^ (64 * ys.length) * y := by rw [val_append, W_pow2]; simp [val]
  rw [hval]
  obtain ⟨p, hp⟩ : ∃ p, nb y = p + 1 := ⟨nb y - 1, by omega⟩
  rw [hp] at b1 b2 ⊢
  show nb _ = 64 * ys.length + p + 1
  refine nb_uniq (k := 64 * ys.length + p) ?_ ?_
  · rw [Nat.pow_add]
    have : 2 ^ (64 * ys.length) * 2 ^ p ≤ 2 ^ (64 * ys.length) * y := Nat.mul_le_mul_left _ b1
    omega
  · rw [Nat.add_assoc, Nat.pow_add]
    have : 2 ^ (64 * ys.length) * (y + 1) ≤ 2 ^ (64 * ys.length) * 2 ^ (p + 1) := Nat.mul_le_mul_left _ b2
    rw [Nat.mul_succ] at this
    omega
theorem nb_half {t : Nat} (h : 0 < t) : nb t = nb (t / 2) + 1 := by
  rcases Nat.eq_zero_or_pos (t / 2) with h0 | h0
  · have : t = 1 := by omega
    subst this
    rfl
  · obtain ⟨b1, b3⟩ := nb_le h0
    have b2 := nb_lt (t / 2)
    obtain ⟨p, hp⟩ : ∃ p, nb (t / 2) = p + 1 := ⟨nb (t / 2) - 1, by omega⟩
    rw [hp] at b1 b2 ⊢
    have e1 : 2 ^ (p + 1) = 2 * 2 ^ p := by rw [Nat.pow_succ]; omega
    have e2 : 2 ^ (p + 1 + 1) = 2 * 2 ^ (p + 1) := by rw [Nat.pow_succ]; omega
    refine nb_uniq (k := p + 1) ?_ ?_
    · simp only [Nat.add_sub_cancel] at b1; omega
    · omega
theorem zbits_any {s : Bool} {A : Option Addr} {n c x L : Nat} {w : World} (h : Num w (.slice A n c) x L) (hL : L ≤ 1073741824) : Calls Tryz.prog 148 #[.agg #[.bool s, .slice A n c]] w (Keeps (.int .i64 ((nb x : Nat) : Int)) w) := by
  have H := Lib.hid h
  clear h
  go_enter Tryz.func148, Tryz.ntmps148
  go_wp2_with fail
  refine (nbits_any (H.out.below ((Below.refl _ _).alloc (Nat.le_refl _) (.cells #[.bool s, .slice A n c] 60))) (by omega)).mono ?_
  rintro e w' ⟨rfl, rfl⟩
  have HEND : Hid (Below w.heap.size w (World.alloc w (.cells #[.bool s, .slice A n c] 60))) := ((Below.refl _ _).alloc (Nat.le_refl _) (.cells #[.bool s, .slice A n c] 60))
  go_wp2
  go_ret
  exact ⟨rfl, HEND.out⟩
theorem dg_top {x : Nat} (h : 0 < x) : ∃ ys y, dg W x = ys ++ [y] ∧ 0 < y ∧ y < W ∧ All W ys := by
  rcases snoc_cases (dg W x) with e | ⟨ys, y, e⟩
  · have := (dg_nil_iff W_gt).1 e; omega
  · have ha := dg_all W_gt x
    rw [e] at ha
    refine ⟨ys, y, e, ?_, ha y (by simp), fun z hz => ha z (by simp [hz])⟩
    rcases Nat.eq_zero_or_pos y with h0 | h0
    · exfalso
      have h1 : strip (dg W x) = dg W x := strip_idem _
      rw [e, h0, strip_snoc_zero] at h1
      have hl := strip_length_le ys
      have := congrArg List.length h1
      simp at this
      omega
    · exact h0
set_option maxHeartbeats 1000000 in
theorem rbits26_any {A : Option Addr} {n c x : Nat} {w : World} (h : Rd .u64 w A n c (dg W x)) (hn : n ≤ 1073741824) : Calls Tryz.prog 122 #[.slice A n c] w (Keeps (.int .i64 ((nb x : Nat) : Int)) w) := by
  rcases Nat.eq_zero_or_pos x with hx | hx
  · subst hx
    have h1 := h.len
    rw [dg_zero W_gt] at h1
    simp at h1
    subst h1
    clear h
    go_enter Tryz.func122, Tryz.ntmps122
    go_wp2
    go_ret
    exact ⟨by rw [nb_zero]; rfl, Below.refl _ _⟩
  · obtain ⟨ys, y, e, hy, hyW, hys⟩ := dg_top hx
    have hv : x = val W (ys ++ [y]) := by rw [← e, dg_val W_gt]
    have hnb : Hid (nb x = 64 * ys.length + nb y) := by rw [hv]; exact nb_top hys hy
    have hlen : ys.length + 1 = n := by have := h.len; rw [e] at this; simpa using this
    obtain ⟨b, off, ea, hb, hc⟩ := h.2 (by omega)
    have hcy := hc ys.length (by omega)
    rw [e, show nth (ys ++ [y]) ys.length = y by simp [nth]] at hcy
    clear h hc hv e
    subst ea
    generalize ys.length = m at hlen hcy hnb
    subst hlen
    have HYW := Lib.hid hyW
    have HNX : Hid (nb x ≤ 68719476736) := by
      have h1 := hnb.out
      have h2 := (nb_le hy).1
      have h3 : nb y - 1 < 64 := (Nat.pow_lt_pow_iff_right (by omega : 1 < 2)).1 (Nat.lt_of_le_of_lt h2 (by rw [W_eq] at hyW; exact hyW))
      show nb x ≤ _
      omega
    clear hyW hys
    have i1 : (0 : Int) ≤ (m : Int) := by omega
    have i2 : (m : Int) < (m : Int) + 1 := by omega
    go_enter Tryz.func122, Tryz.ntmps122
    go_wp2_with fail
    go_loopw [3, 4] (fun av tv wr => ∃ (a t : Nat), Hid (a + nb t = nb x ∧ t < W ∧ Below w.heap.size w wr) ∧ a ≤ 68719476736 ∧ av = .int .i64 (a : Int) ∧ tv = .int .u64 (t : Int)) (fun _ tv _ => (intOf tv).toNat)
    case atStart => exact ⟨64 * m, y, ⟨hnb.out.symm, HYW.out, Below.refl _ _⟩, by omega, by go_num, rfl⟩
    case round =>
      obtain ⟨a, t, hI, ha, rfl, rfl⟩ := hrel
      rcases Nat.eq_zero_or_pos t with ht | ht
      · subst ht
        go_wp2
        go_ret
        exact ⟨by have := hI.out.1; rw [nb_zero] at this; simp at this; rw [this]; rfl, hI.out.2.2⟩
      · have i3 : (0 : Int) < (t : Int) := by omega
        have h1 := nb_half ht
        have HN2 : Hid (a + 1 + nb (t / 2) = nb x ∧ t / 2 < W ∧ Below w.heap.size w wr) := ⟨by have := hI.out.1; omega, by have := hI.out.2.1; omega, hI.out.2.2⟩
        have h3 : a + 1 ≤ 68719476736 := by have := hI.out.1; have := HNX.out; omega
        have HT := hI.out.2.1
        rw [W_eq] at HT
        have e5 : IntKind.u64.wrap ((t : Int) / 2) = ((t / 2 : Nat) : Int) := by rw [IntKind.wrap_u64]; omega
        clear h1 HT hI
        go_wp2
        go_roundw
        case rel => exact ⟨a + 1, t / 2, HN2, h3, by go_num, rfl⟩
        case measure => simp [intOf]; omega
def bigq (q : Cn) : Bool := decide (1024 < nb q.1.natAbs) || decide (1024 < nb q.2)
/-- what Fits answers -/
def fitc (rs : List Cf) : Int := if rs.all (fun r => decide (0 < r.2.2)) then (if 33 < (pn rs).length then 10 else if (pn rs).any bigq then 10 else 0) else 1
theorem fitc_zero {rs : List Cf} (h : ∃ r ∈ rs, r.2.2 = 0) : fitc rs = 1 := by
  unfold fitc
  rw [if_neg]
  intro h1
  obtain ⟨r, h2, h3⟩ := h
  have := List.all_eq_true.1 h1 r h2
  simp at this
  omega
theorem fitc_all {rs : List Cf} (h : ∀ r ∈ rs, 0 < r.2.2) : fitc rs = if 33 < (pn rs).length then 10 else if (pn rs).any bigq then 10 else 0 := by
  unfold fitc
  rw [if_pos]
  rw [List.all_eq_true]
  intro r hr
  simpa using h r hr
set_option maxHeartbeats 4000000 in
theorem efits_any {A : Option Addr} {n c L : Nat} {rs : List Cf} {w : World} (h : PolyI L w (.slice A n c) rs) (hL1 : 1 ≤ L) (hL : L ≤ 268435456) (hn : n ≤ 1073741824) : Calls Tryz.prog 118 #[.slice A n c] w (Keeps (.int .i64 (fitc rs)) w) := by
  have C := Lib.hid (qpnorm_any h hL1 hL hn)
  clear h
  go_enter Tryz.func118, Tryz.ntmps118
  go_wp2_with fail
  refine C.out.mono ?_
  rintro e wn hg
  rcases hg with ⟨v, rfl, hall, hpo, hbn⟩ | ⟨rfl, hz, hbn⟩
  · have HBN := Lib.hid hbn
    obtain ⟨A2, n2, c2, _, rfl, _⟩ := id hpo
    clear hbn C
    have HPC := Lib.hid hpo.c
    have HND : Hid (n2 = (pn rs).length) := hpo.len.1
    have HFA := Lib.hid (fitc_all hall.out)
    clear hpo
    by_cases hbig : 33 < n2
    · have HF : Hid (fitc rs = 10) := by rw [HFA.out, if_pos (by rw [← HND.out]; exact hbig)]; rfl
      have d1 : decide ((33 : Int) < (n2 : Int)) = true := by simp; omega
      go_wp2
      go_ret
      exact ⟨by rw [HF.out]; rfl, HBN.out⟩
    · have HF : Hid (fitc rs = if (pn rs).any bigq then 10 else 0) := by rw [HFA.out, if_neg (by rw [← HND.out]; exact hbig)]; rfl
      have d1 : decide ((33 : Int) < (n2 : Int)) = false := by simp; omega
      go_wp2
      go_loopw [19] (fun kv wr => ∃ (i : Nat), Hid (Below wn.heap.size wn wr ∧ ∀ q ∈ (pn rs).take i, bigq q = false) ∧ i ≤ n2 ∧ kv = .int .i64 (i : Int)) (fun kv _ => n2 - (intOf kv).toNat)
      case atStart => exact ⟨0, ⟨Below.refl _ _, by simp⟩, Nat.zero_le _, rfl⟩
      case round =>
        obtain ⟨i, hI, hi, rfl⟩ := hrel
        by_cases hlt : i < n2
        · obtain ⟨b, off, s, A1, n1, c1, A3, n3, c3, q, e, hb, eq, hsr, h0, h1, h2, h3, h4⟩ := (HPC.out.below hI.out.1).at (i := i) (by have := HND.out; omega)
          have HQ := Lib.hid eq
          have HCN := Lib.hid (And.intro h3 h4)
          have hn1 : n1 ≤ L := h3.2
          have hn3 : n3 ≤ L := h4.2
          clear eq h3 h4 hsr
          subst e
          have i1 : (0 : Int) ≤ (i : Int) := by omega
          have i2 : (i : Int) < (n2 : Int) := by omega
          go_wp2_with fail
          refine (zbits_any (s := s) ((show Num wr (.slice A1 n1 c1) q.1.natAbs L from ⟨_, _, _, _, rfl, HCN.out.1.1, dg_all W_gt _, dg_val W_gt _, hn1⟩).below ((Below.refl _ _).alloc (Nat.le_refl _) (.cells #[.bool s, .slice A1 n1 c1, .slice A3 n3 c3] 62))) (by omega)).mono ?_
          rintro e w1 ⟨rfl, hb1⟩
          clear h0 h1 h2
          by_cases hg1 : 1024 < nb q.1.natAbs
          · have HF2 : Hid (fitc rs = 10) := by
              rw [HF.out, if_pos (List.any_eq_true.2 ⟨q, List.mem_of_getElem? HQ.out, by unfold bigq; rw [decide_eq_true hg1]; rfl⟩)]; rfl
            have d2 : decide ((1024 : Int) < ((nb q.1.natAbs : Nat) : Int)) = true := by simp; omega
            have HB := Lib.hid (bt HBN.out (bt hI.out.1 (bt ((Below.refl _ _).alloc (Nat.le_refl _) (.cells #[.bool s, .slice A1 n1 c1, .slice A3 n3 c3] 62)) hb1)))
            go_wp2
            go_ret
            exact ⟨by rw [HF2.out]; rfl, HB.out⟩
          · have d2 : decide ((1024 : Int) < ((nb q.1.natAbs : Nat) : Int)) = false := by simp; omega
            have x2 := ((At.boxc (i := 2) (v := .slice A3 n3 c3) (t := 62) (b := wr.heap.size) wr #[.bool s, .slice A1 n1 c1, .slice A3 n3 c3] rfl (by simp)).below hb1).1
            go_wp2_with fail
            refine (nbits_any (((show Num wr (.slice A3 n3 c3) q.2 L from ⟨_, _, _, _, rfl, HCN.out.2.1, dg_all W_gt _, dg_val W_gt _, hn3⟩).below ((Below.refl _ _).alloc (Nat.le_refl _) (.cells #[.bool s, .slice A1 n1 c1, .slice A3 n3 c3] 62))).below hb1) (by omega)).mono ?_
            rintro e w' ⟨rfl, rfl⟩
            clear x2
            have HB := Lib.hid (bt hI.out.1 (bt ((Below.refl _ _).alloc (Nat.le_refl _) (.cells #[.bool s, .slice A1 n1 c1, .slice A3 n3 c3] 62)) hb1))
            by_cases hg2 : 1024 < nb q.2
            · have HF2 : Hid (fitc rs = 10) := by
                rw [HF.out, if_pos (List.any_eq_true.2 ⟨q, List.mem_of_getElem? HQ.out, by unfold bigq; rw [decide_eq_true hg2, Bool.or_true]⟩)]; rfl
              have d3 : decide ((1024 : Int) < ((nb q.2 : Nat) : Int)) = true := by simp; omega
              have HB2 := Lib.hid (bt HBN.out HB.out)
              go_wp2
              go_ret
              exact ⟨by rw [HF2.out]; rfl, HB2.out⟩
            · have HQ2 := HQ
              have HN : Hid (Below wn.heap.size wn w1 ∧ ∀ q ∈ (pn rs).take (i + 1), bigq q = false) := by
                refine ⟨HB.out, fun q' hm => ?_⟩
                rw [take_snoc HQ2.out] at hm
                rcases List.mem_append.1 hm with hm | hm
                · exact hI.out.2 q' hm
                · simp at hm; subst hm; unfold bigq; rw [decide_eq_false hg1, decide_eq_false hg2]; rfl
              have d3 : decide ((1024 : Int) < ((nb q.2 : Nat) : Int)) = false := by simp; omega
              go_wp2
              go_roundw
              case rel => exact ⟨i + 1, HN, by omega, by go_num⟩
              case measure => simp [intOf]; omega
        · obtain rfl : i = n2 := by omega
          have HF2 : Hid (fitc rs = 0) := by
            rw [HF.out, if_neg]
            · rfl
            · rw [Bool.not_eq_true, List.any_eq_false]
              intro q hq
              have := hI.out.2 q (by rw [List.take_of_length_le (by have := HND.out; omega)]; exact hq)
              rw [this]; simp
          have HB := Lib.hid (bt HBN.out hI.out.1)
          go_wp2
          go_ret
          exact ⟨by rw [HF2.out]; rfl, HB.out⟩
  · have HF : Hid (fitc rs = 1) := fitc_zero hz.out
    have HBN := Lib.hid hbn
    go_wp2
    go_ret
    exact ⟨by rw [HF.out]; rfl, HBN.out⟩
set_option maxHeartbeats 4000000 in
theorem rfits_any {A : Option Addr} {n c L : Nat} {rs : List Cf} {w : World} (h : PolyI L w (.slice A n c) rs) (hL1 : 1 ≤ L) (hL : L ≤ 268435456) (hn : n ≤ 1073741824) : Calls Tryz.prog 64 #[.slice A n c] w (Keeps (.int .i64 (fitc rs)) w) := by
  have C := Lib.hid (good10_any h hL hn)
  have H := Lib.hid h
  clear h
  go_enter Tryz.func64, Tryz.ntmps64
  go_wp2_with fail
  refine C.out.mono ?_
  rintro e wg ⟨rfl, hbg⟩
  have HBG := Lib.hid hbg
  clear hbg C
  by_cases hal : (rs.all fun r => decide (0 < r.2.2)) = true
  · have hall : Hid (∀ r ∈ rs, 0 < r.2.2) := fun r hr => by have := List.all_eq_true.1 hal r hr; simpa using this
    have CF := Lib.hid (form10_any (H.out.below HBG.out) hall.out hL1 hL hn)
    rw [hal]
    clear hal
    go_wp2_with fail
    refine CF.out.mono ?_
    rintro e wn ⟨v, rfl, hpo, hbn⟩
    have HBN := Lib.hid (bt HBG.out hbn)
    obtain ⟨A2, n2, c2, _, rfl, _⟩ := id hpo
    clear hbn CF
    have HPC := Lib.hid hpo.c
    have HND : Hid (n2 = (pn rs).length) := hpo.len.1
    have HFA := Lib.hid (fitc_all hall.out)
    clear hpo
    by_cases hbig : 33 < n2
    · have HF : Hid (fitc rs = 10) := by rw [HFA.out, if_pos (by rw [← HND.out]; exact hbig)]; rfl
      have d1 : decide ((33 : Int) < (n2 : Int)) = true := by simp; omega
      go_wp2
      go_ret
      exact ⟨by rw [HF.out]; rfl, HBN.out⟩
    · have HF : Hid (fitc rs = if (pn rs).any bigq then 10 else 0) := by rw [HFA.out, if_neg (by rw [← HND.out]; exact hbig)]; rfl
      have d1 : decide ((33 : Int) < (n2 : Int)) = false := by simp; omega
      go_wp2
      go_loopw [16] (fun kv wr => ∃ (i : Nat), Hid (Below wn.heap.size wn wr ∧ ∀ q ∈ (pn rs).take i, bigq q = false) ∧ i ≤ n2 ∧ kv = .int .i64 (i : Int)) (fun kv _ => n2 - (intOf kv).toNat)
      case atStart => exact ⟨0, ⟨Below.refl _ _, by simp⟩, Nat.zero_le _, rfl⟩
      case round =>
        obtain ⟨i, hI, hi, rfl⟩ := hrel
        by_cases hlt : i < n2
        · obtain ⟨b, off, s, A1, n1, c1, A3, n3, c3, q, e, hb, eq, hsr, h0, h1, h2, h3, h4⟩ := (HPC.out.below hI.out.1).at (i := i) (by have := HND.out; omega)
          have HQ := Lib.hid eq
          have HCN := Lib.hid (And.intro h3 h4)
          have hn1 : n1 ≤ L := h3.2
          have hn3 : n3 ≤ L := h4.2
          clear eq h3 h4 hsr
          subst e
          have i1 : (0 : Int) ≤ (i : Int) := by omega
          have i2 : (i : Int) < (n2 : Int) := by omega
          go_wp2_with fail
          refine (rbits26_any (HCN.out.1.1.below ((Below.refl _ _).alloc (Nat.le_refl _) (.cells #[.bool s, .slice A1 n1 c1, .slice A3 n3 c3] 62))) (by omega)).mono ?_
          rintro e w1 ⟨rfl, hb1⟩
          clear h0 h1 h2
          by_cases hg1 : 1024 < nb q.1.natAbs
          · have HF2 : Hid (fitc rs = 10) := by
              rw [HF.out, if_pos (List.any_eq_true.2 ⟨q, List.mem_of_getElem? HQ.out, by unfold bigq; rw [decide_eq_true hg1]; rfl⟩)]; rfl
            have d2 : decide ((1024 : Int) < ((nb q.1.natAbs : Nat) : Int)) = true := by simp; omega
            have HB := Lib.hid (bt HBN.out (bt hI.out.1 (bt ((Below.refl _ _).alloc (Nat.le_refl _) (.cells #[.bool s, .slice A1 n1 c1, .slice A3 n3 c3] 62)) hb1)))
            go_wp2
            go_ret
            exact ⟨by rw [HF2.out]; rfl, HB.out⟩
          · have d2 : decide ((1024 : Int) < ((nb q.1.natAbs : Nat) : Int)) = false := by simp; omega
            have x2 := ((At.boxc (i := 2) (v := .slice A3 n3 c3) (t := 62) (b := wr.heap.size) wr #[.bool s, .slice A1 n1 c1, .slice A3 n3 c3] rfl (by simp)).below hb1).1
            go_wp2_with fail
            refine (rbits26_any ((HCN.out.2.1.below ((Below.refl _ _).alloc (Nat.le_refl _) (.cells #[.bool s, .slice A1 n1 c1, .slice A3 n3 c3] 62))).below hb1) (by omega)).mono ?_
            rintro e w2 ⟨rfl, hb2⟩
            clear x2
            have HB := Lib.hid (bt hI.out.1 (bt (bt ((Below.refl _ _).alloc (Nat.le_refl _) (.cells #[.bool s, .slice A1 n1 c1, .slice A3 n3 c3] 62)) hb1) hb2))
            by_cases hg2 : 1024 < nb q.2
            · have HF2 : Hid (fitc rs = 10) := by
                rw [HF.out, if_pos (List.any_eq_true.2 ⟨q, List.mem_of_getElem? HQ.out, by unfold bigq; rw [decide_eq_true hg2, Bool.or_true]⟩)]; rfl
              have d3 : decide ((1024 : Int) < ((nb q.2 : Nat) : Int)) = true := by simp; omega
              have HB2 := Lib.hid (bt HBN.out HB.out)
              go_wp2
              go_ret
              exact ⟨by rw [HF2.out]; rfl, HB2.out⟩
            · have HQ2 := HQ
              have HN : Hid (Below wn.heap.size wn w2 ∧ ∀ q ∈ (pn rs).take (i + 1), bigq q = false) := by
                refine ⟨HB.out, fun q' hm => ?_⟩
                rw [take_snoc HQ2.out] at hm
                rcases List.mem_append.1 hm with hm | hm
                · exact hI.out.2 q' hm
                · simp at hm; subst hm; unfold bigq; rw [decide_eq_false hg1, decide_eq_false hg2]; rfl
              have d3 : decide ((1024 : Int) < ((nb q.2 : Nat) : Int)) = false := by simp; omega
              go_wp2
              go_roundw
              case rel => exact ⟨i + 1, HN, by omega, by go_num⟩
              case measure => simp [intOf]; omega
        · obtain rfl : i = n2 := by omega
          have HF2 : Hid (fitc rs = 0) := by
            rw [HF.out, if_neg]
            · rfl
            · rw [Bool.not_eq_true, List.any_eq_false]
              intro q hq
              have := hI.out.2 q (by rw [List.take_of_length_le (by have := HND.out; omega)]; exact hq)
              rw [this]; simp
          have HB := Lib.hid (bt HBN.out hI.out.1)
          go_wp2
          go_ret
          exact ⟨by rw [HF2.out]; rfl, HB.out⟩
  · have HF : Hid (fitc rs = 1) := by unfold fitc; rw [if_neg hal]; rfl
    rw [Bool.not_eq_true] at hal
    rw [hal]
    go_wp2
    go_ret
    exact ⟨by rw [HF.out]; rfl, HBG.out⟩
end Go.Proofs.YtamfhmmcnlollaaGreat
namespace Go.Proofs.YtamfhmmcnlollaaGreat
open Go.RowKit
set_option linter.unusedVariables false
/-- as it came in, the call's own -/
def RawO (B L : Nat) (w : World) (h : Hr) (r : Cf) : Prop :=
  h.1 = r.1 ∧ ((∃ xs, Own .u64 41 B w h.2.1.1 h.2.1.2.1 h.2.1.2.2 xs ∧ All W xs ∧ val W xs = r.2.1) ∧ h.2.1.2.1 ≤ L) ∧ (∃ xs, Own .u64 41 B w h.2.2.1 h.2.2.2.1 h.2.2.2.2 xs ∧ All W xs ∧ val W xs = r.2.2) ∧ h.2.2.2.1 ≤ L
def PolyW (B L : Nat) (w : World) (v : Value) (rs : List Cf) : Prop := ∃ A n c hs, v = .slice A n c ∧ RowK 3 62 B w A n c (hs.flatMap hrv) ∧ n = rs.length ∧ All2 (RawO B L w) hs rs
section
variable {B B' L : Nat} {w w' : World} {h : Hr} {r : Cf} {v : Value} {rs : List Cf}
theorem RawO.raw (H : RawO B L w h r) : RawR L w h r := by
  obtain ⟨h1, ⟨⟨xs, h2, h3, h4⟩, h5⟩, ⟨ys, h6, h7, h8⟩, h9⟩ := H
  exact ⟨h1, ⟨_, _, _, _, rfl, h2.rd, h3, h4, h5⟩, ⟨_, _, _, _, rfl, h6.rd, h7, h8, h9⟩⟩
theorem RawO.below (H : RawO B L w h r) (hb : Below w.heap.size w w') : RawO B L w' h r := by
  obtain ⟨h1, ⟨⟨xs, h2, h3⟩, h5⟩, ⟨ys, h6, h7⟩, h9⟩ := H
  exact ⟨h1, ⟨⟨xs, h2.below hb, h3⟩, h5⟩, ⟨ys, h6.below hb, h7⟩, h9⟩
theorem RawO.mono (H : RawO B L w h r) (hB : B' ≤ B) : RawO B' L w h r := by
  obtain ⟨h1, ⟨⟨xs, h2, h3⟩, h5⟩, ⟨ys, h6, h7⟩, h9⟩ := H
  exact ⟨h1, ⟨⟨xs, h2.mono hB, h3⟩, h5⟩, ⟨ys, h6.mono hB, h7⟩, h9⟩
theorem RawO.grown {T : TypeId} {s m : Nat} {vs : List Value} {u : Value} (H : RawO B L w h r) (hr : w.ownsRow B T s u m vs) (hne : 41 ≠ T) (hg : w.grownBy w' u.ownBlock) : RawO B L w' h r := by
  obtain ⟨h1, ⟨⟨xs, h2, h3⟩, h5⟩, ⟨ys, h6, h7⟩, h9⟩ := H
  exact ⟨h1, ⟨⟨xs, h2.other hr hne hg, h3⟩, h5⟩, ⟨ys, h6.other hr hne hg, h7⟩, h9⟩
theorem PolyW.i (H : PolyW B L w v rs) : PolyI L w v rs := by
  obtain ⟨A, n, c, hs, rfl, h1, h2, h3⟩ := H
  exact ⟨A, n, c, hs, rfl, h1.rd, h2, h3.imp fun _ _ e => e.raw⟩
theorem PolyW.below (H : PolyW B L w v rs) (hb : Below w.heap.size w w') : PolyW B L w' v rs := by
  obtain ⟨A, n, c, hs, rfl, h1, h2, h3⟩ := H
  exact ⟨A, n, c, hs, rfl, h1.below hb, h2, h3.imp fun _ _ e => e.below hb⟩
end
def CI (w : World) (L : Nat) (rs : List Cf) (i : Nat) (A' : Option Addr) (c' : Nat) (wr : World) : Prop :=
  (∃ hs : List Hr, RowK 3 62 w.heap.size wr A' i c' (hs.flatMap hrv) ∧ All2 (RawO w.heap.size L wr) hs (rs.take i)) ∧ Below w.heap.size w wr
theorem CI.below {w wr w' : World} {L i c' : Nat} {rs : List Cf} {A' : Option Addr} (h : CI w L rs i A' c' wr) (hb : Below wr.heap.size wr w') : CI w L rs i A' c' w' := by
  obtain ⟨⟨hs, h1, h2⟩, h4⟩ := h
  exact ⟨⟨hs, h1.below hb, h2.imp fun _ _ e => e.below hb⟩, bt h4 hb⟩
theorem CI.grown {w w' : World} {L i c2 : Nat} {rs : List Cf} {A2 : Option Addr} {hs : List Hr} {h : Hr} {r : Cf} (ho : RowK 3 62 w.heap.size w' A2 (i + 1) c2 (hs.flatMap hrv ++ hrv h)) (h2 : All2 (RawO w.heap.size L w') hs (rs.take i)) (hc : RawO w.heap.size L w' h r) (hr : rs[i]? = some r) (hb : Below w.heap.size w w') : CI w L rs (i + 1) A2 c2 w' := by
  refine ⟨⟨hs ++ [h], by simpa using ho, ?_⟩, hb⟩
  rw [take_snoc hr]
  exact h2.snoc hc
theorem cell_gr {row : Option Nat} {w : World} {p : Addr} {v : Value} (h : w.cell? p = some v) (hp : some p.block ≠ row) : ∀ w', Grow row w.drew w' → w'.cell? p = some v := fun w' g => g.cell (p := p) (v := v) h hp
theorem Grow.any {row : Option Nat} {a b : World} (h : Grow none a b) : Grow row a b := ⟨h.os, h.tape, h.output, h.size, fun k hk _ => h.block k hk (by simp)⟩
end Go.Proofs.YtamfhmmcnlollaaGreat
