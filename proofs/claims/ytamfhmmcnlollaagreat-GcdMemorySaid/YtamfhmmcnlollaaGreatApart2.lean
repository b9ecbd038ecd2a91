/-
  Colours of blocks: lists that grow in places of their own. No program here.
-/
import Derived.Test.YtamfhmmcnlollaaGreatApart
import Derived.OpenShut
namespace Go.Proofs.YtamfhmmcnlollaaGreat
open Go.RowKit
set_option linter.unusedVariables false

/-- the header's block has the colour c -/
def HasCol (col : Nat → Nat) (s : Sh) (c : Nat) : Prop := ∀ a, s.1 = some a → col a.block = c
/-- the header's own block -/
def Own1 (s : Sh) (b : Nat) : Prop := ∃ a, s.1 = some a ∧ a.block = b
/-- what is new since block N gets the colour c -/
def upc (col : Nat → Nat) (N c : Nat) (b : Nat) : Nat := if b < N then col b else c
abbrev OwnS (t : TypeId) (B : Nat) (w : World) (s : Sh) (xs : List Nat) : Prop := Own .u64 t B w s.1 s.2.1 s.2.2 xs
theorem Apt.col {ss : List Sh} (h : Apt ss) : ∃ col : Nat → Nat, ∀ (i : Nat) (s : Sh), ss[i]? = some s → HasCol col s (2 * i) := by
  classical
  refine ⟨fun b => if h : ∃ i, ∃ (s : Sh) (a : Addr), ss[i]? = some s ∧ s.1 = some a ∧ a.block = b then 2 * Classical.choose h else 0, fun i s hi a ea => ?_⟩
  have hex : ∃ i, ∃ (s : Sh) (a' : Addr), ss[i]? = some s ∧ s.1 = some a' ∧ a'.block = a.block := ⟨i, s, a, hi, ea, rfl⟩
  simp only [dif_pos hex]
  obtain ⟨s', a', h1, h2, h3⟩ := Classical.choose_spec hex
  by_cases hij : Classical.choose hex = i
  · rw [hij]
  · exact absurd h3 (h _ i s' s h1 hi hij a' a h2 ea)
theorem HasCol.up {col : Nat → Nat} {s : Sh} {c d N : Nat} (h : HasCol col s d) (hl : ∀ a, s.1 = some a → a.block < N) : HasCol (upc col N c) s d := fun a e => by
  have := hl a e
  rw [upc, if_pos this]; exact h a e
theorem HasCol.new {col : Nat → Nat} {s : Sh} {c N : Nat} (hl : ∀ a, s.1 = some a → N ≤ a.block) : HasCol (upc col N c) s c := fun a e => by
  have := hl a e
  rw [upc, if_neg (by omega)]
theorem HasCol.none {col : Nat → Nat} {c n m : Nat} : HasCol col (none, n, m) c := fun a e => by cases e
section
variable {t T : TypeId} {B B2 : Nat} {w w' : World} {s g : Sh} {xs ys : List Nat} {col : Nat → Nat} {c d : Nat}
theorem OwnS.lt (h : OwnS t B w s xs) : ∀ a, s.1 = some a → a.block < w.heap.size := fun a e => (h.lies a e).2
theorem keep_own (h : OwnS t B w s xs) (hc : HasCol col s d) (hg : HasCol col g c) (hne : d ≠ c) (hx : Ex (Own1 g) w w') : OwnS t B w' s xs :=
  h.ex hx (fun a e ⟨b, e2, e3⟩ => hne (by rw [← hc a e, ← hg b e2, e3]))
theorem RowV.ne_own {A : Option Addr} {n m : Nat} {vs : List Value} (h : RowV T B w A n m vs) (ho : OwnS t B2 w s xs) (hne : t ≠ T) : ∀ a b, A = some a → s.1 = some b → a.block ≠ b.block := by
  intro a b ea eb e
  rcases h.2 with ⟨h4, _⟩ | ⟨g, cap, cur, hv, _, hh, _⟩
  · injection h4 with h4; rw [ea] at h4; cases h4
  · injection hv with hv _ _
    rw [ea] at hv
    injection hv with hv
    subst hv
    rcases ho.2 with ⟨h5, _⟩ | ⟨g2, cap2, cur2, hv2, _, hh2, _⟩
    · injection h5 with h5; rw [eb] at h5; cases h5
    · injection hv2 with hv2 _ _
      rw [eb] at hv2
      injection hv2 with hv2
      subst hv2
      simp only at e
      subst e
      rw [hh] at hh2
      injection hh2 with hh2
      injection hh2 with _ e2 _
      exact hne e2.symm
theorem RowV.ex {A : Option Addr} {n m : Nat} {vs : List Value} {S : Nat → Prop} (h : RowV T B w A n m vs) (hx : Ex S w w') (hs : ∀ a, A = some a → ¬ S a.block) : RowV T B w' A n m vs := by
  refine ⟨h.1, ?_⟩
  rcases h.2 with h2 | ⟨g, cap, cur, hv, hg, hh, r⟩
  · exact .inl h2
  · refine .inr ⟨g, cap, cur, hv, hg, ?_, r⟩
    have e1 : A = some ⟨g, 0, none⟩ := by injection hv
    rw [hx.block g (Array.getElem?_eq_some_iff.1 hh).1 (hs _ e1)]; exact hh
theorem keep_row {A : Option Addr} {n m : Nat} {vs : List Value} (h : RowV T B w A n m vs) (ho : OwnS t B2 w s xs) (hne : t ≠ T) (hx : Ex (Own1 s) w w') : RowV T B w' A n m vs :=
  h.ex hx (fun a e ⟨b, e2, e3⟩ => h.ne_own ho hne a b e e2 e3.symm)
/-- a write into a row's block -/
theorem keep_ownR {A : Option Addr} {n m : Nat} {vs : List Value} (h : OwnS t B w s xs) (hr : RowV T B2 w A n m vs) (hne : t ≠ T) (hx : Ex (fun b => ∃ a, A = some a ∧ a.block = b) w w') : OwnS t B w' s xs :=
  h.ex hx (fun a e ⟨b, e2, e3⟩ => hr.ne_own h hne b a e2 e e3)
theorem Ex.own1 {n m : Nat} {A : Option Addr} {w0 : World} (hg : w.grownBy w' (Value.slice A n m).ownBlock) : Ex (fun b => ∃ a, A = some a ∧ a.block = b) w w' := Ex.grown hg (fun q hq => by
  cases A with
  | none => cases hq
  | some a => injection hq with hq; exact ⟨a, rfl, hq⟩)
theorem RowV.lies {A : Option Addr} {n m : Nat} {vs : List Value} (h : RowV T B w A n m vs) : Lies A B w.heap.size := by
  intro a e
  subst e
  rcases h.2 with ⟨h2, _⟩ | ⟨g, cap, cur, hv, hg, hh, _⟩
  · cases h2
  · injection hv with e1 _ _
    injection e1 with e1
    subst e1
    exact ⟨hg, (Array.getElem?_eq_some_iff.1 hh).1⟩
theorem RowV.nil : RowV T B w none 0 0 [] := World.ownsRow_nil _ _ _ _
/-- an element of a row is turned -/
theorem RowV.stored {g0 n m i : Nat} {vs : List Value} {u : Value} (h : RowV T B w (some ⟨g0, 0, none⟩) n m vs) : RowV T B (w.setCell ⟨g0, i, none⟩ u) (some ⟨g0, 0, none⟩) n m (vs.set i u) := (World.ownsRow.stored (j := i) (u := u) h).1
theorem RowV.frozen {g0 n m i : Nat} {vs : List Value} (h : RowV T B w (some ⟨g0, 0, none⟩) n m vs) : w.frozen? ⟨g0, i, none⟩ = false := World.ownsRow.frozenAt h i
theorem RowV.form {A : Option Addr} {n m : Nat} {vs : List Value} (h : RowV T B w A n m vs) (hn : 0 < n) : ∃ g, A = some ⟨g, 0, none⟩ ∧ B ≤ g ∧ g < w.heap.size := by
  obtain ⟨g, cap, hv, hb, hlt⟩ := World.ownsRow.form h hn
  injection hv with hA _ _
  exact ⟨g, hA, hb, hlt⟩
theorem RowV.cell {g0 n m i : Nat} {vs : List Value} (h : RowV T B w (some ⟨g0, 0, none⟩) n m vs) (hi : i < n) : w.cell? ⟨g0, i, none⟩ = vs[i]? := World.ownsRow.cellAt h i (by omega)
end
/-- two headers on one row, or on two -/
def Kin (s g : Sh) : Prop := (g.1 = s.1 ∧ g.2.2 = s.2.2) ∨ ∀ a b, s.1 = some a → g.1 = some b → a.block ≠ b.block
/-- append of one word onto g, which may lie on s's row -/
theorem kin_app {P : Program} {T t : TypeId} {B B2 : Nat} {w : World} {s g : Sh} {G e : List Nat} {ad : Addr} {c2 x : Nat} (ty : TypeId) (he : Elem P T t .u64) (hs : OwnS t B2 w s G) (hg : OwnS t B w g (G ++ e)) (hk : Kin s g)
    (hr : Rd .u64 w (some ad) 1 c2 [x]) (hlen : g.2.1 + 1 ≤ 1099511627776) (hB : B ≤ w.heap.size) :
    ∃ (g' : Sh) (w' : World), (Builtin.append_ #[T, T] ty #[.slice g.1 g.2.1 g.2.2, .slice (some ad) 1 c2]).run P w = .ok (.slice g'.1 g'.2.1 g'.2.2) w' ∧ g'.2.1 = g.2.1 + 1 ∧ OwnS t B w' g' (G ++ (e ++ [x])) ∧ OwnS t B2 w' s G ∧ Kin s g' ∧
      w.grownBy w' (Value.slice g.1 g.2.1 g.2.2).ownBlock ∧ (g'.1 = g.1 ∨ ∀ a, g'.1 = some a → w.heap.size ≤ a.block) := by
  obtain ⟨A, n, c⟩ := g
  obtain ⟨hT, hinfo⟩ := id he
  obtain ⟨i, hi, hz, hs1, hb⟩ := info_parts hinfo
  have hcells : ∀ j u, ([x].map (iv .u64))[j]? = some u → w.cell? (ad.add j) = some u := by
    intro j u hu
    rw [List.getElem?_map] at hu
    obtain ⟨y, hy, rfl⟩ := Option.map_eq_some_iff.1 hu
    have hj : j < [x].length := (List.getElem?_eq_some_iff.1 hy).1
    obtain ⟨b, off, h, _, hc⟩ := hr.at (by simpa using hj)
    injection h with h
    subst h
    rw [addo, hc, nth, hy]
    rfl
  have hass : G ++ (e ++ [x]) = (G ++ e) ++ [x] := by rw [List.append_assoc]
  rcases id hg.2 with ⟨hv, hn0⟩ | ⟨g0, cap, cur, hv, hgb, hh, hnc, hcm, hcs, ht⟩
  · obtain ⟨A', c', w', hrun, h2, h3, h4, h5⟩ := run_app (c2 := c2) ty he hg hr hlen hB
    injection hv with e1 e2 e3
    subst e1; subst e2; subst e3
    have hfr : ∀ a, A' = some a → w.heap.size ≤ a.block := by
      intro a ea
      subst ea
      rcases h5 with h5 | h5
      · cases h5
      · injection h5 with h5; omega
    refine ⟨(A', 0 + 1, c'), w', hrun, rfl, by rw [hass]; exact h2, hs.kept_grown h4, .inr (fun a b ea eb hab => ?_), h4, .inr hfr⟩
    have h6 := OwnS.lt hs a ea
    have h7 := hfr b eb
    omega
  · injection hv with e1 _ e3
    subst e1; subst e3
    have hlen' : n + 1 ≤ 1099511627776 := hlen
    by_cases hroom : n + 1 ≤ c
    · obtain ⟨w', hrun, h2, h3⟩ := run_append_fits (P := P) w B T ty t i 1 hT hi hs1 g0 n c ((G ++ e).map (iv .u64)) hg ad 1 c2 ([x].map (iv .u64)) (by simp) hcells (iv_one .u64 [x]) hroom
      have h2' : Own .u64 t B w' (some ⟨g0, 0, none⟩) (n + 1) c (G ++ (e ++ [x])) := by unfold Own; rw [hass, List.map_append]; exact h2
      refine ⟨(some ⟨g0, 0, none⟩, n + 1, c), w', hrun, rfl, h2', ?_, hk, h3, .inl rfl⟩
      rcases hk with ⟨k1, k2⟩ | hk
      · obtain ⟨A2, n2, cc2⟩ := s
        simp only at k1 k2
        subst k1; subst k2
        have hn2 : G.length = n2 := hs.len
        have hn1 : (G ++ e).length = n := hg.len
        rw [List.length_append] at hn1
        have h7 : Own .u64 t B w' (some ⟨g0, 0, none⟩) (n2 + (e.length + 1)) c (G ++ (e ++ [x])) := by
          have : n2 + (e.length + 1) = n + 1 := by omega
          rw [this]; exact h2'
        have h8 := h7.shrink hn2
        have hlow : B2 ≤ g0 := (hs.lies _ rfl).1
        refine ⟨h8.1, ?_⟩
        rcases h8.2 with h9 | ⟨q, cap, cur, hv, _, r⟩
        · exact .inl h9
        · refine .inr ⟨q, cap, cur, hv, ?_, r⟩
          injection hv with hv; injection hv with hv; injection hv with hv; omega
      · exact hs.ex (S := fun b => b = g0) (Ex.grown h3 (fun q hq => by injection hq with hq; exact hq.symm)) (fun a ea hab => hk a ⟨g0, 0, none⟩ ea rfl hab)
    · have holds : ∀ j u, ((G ++ e).map (iv .u64))[j]? = some u → w.cell? ((⟨g0, 0, none⟩ : Addr).add j) = some u := fun j u hj => (World.ownsRow.cells hg (g := g0) rfl) j u hj
      obtain ⟨v', w', hrun, r1, r2⟩ := run_append_arg_grows (P := P) w T ty t i (.int .u64 0) 1 8 hT hi hz hs1 hb rfl (by omega) ⟨g0, 0, none⟩ n c ((G ++ e).map (iv .u64)) (by have := hg.len; simpa using this) holds ad 1 c2 ([x].map (iv .u64)) (by simp) hcells (by omega) (by simp only [maxLen]; omega) (by omega)
      obtain ⟨A', c', rfl⟩ : ∃ A' c', v' = .slice A' (n + 1) c' := by
        rcases r1.2 with ⟨h3, h4⟩ | ⟨g, cap, cur, hv, _⟩
        · omega
        · exact ⟨_, _, hv⟩
      have r1' : Own .u64 t w.heap.size w' A' (n + 1) c' (G ++ (e ++ [x])) := by unfold Own; rw [hass, List.map_append]; exact r1
      have hfr : ∀ a, A' = some a → w.heap.size ≤ a.block := fun a ea => (r1'.lies a ea).1
      refine ⟨(A', n + 1, c'), w', hrun, rfl, r1'.mono hB, hs.kept_grown r2, .inr (fun a b ea eb hab => ?_), grown_some r2, .inr hfr⟩
      have h6 := OwnS.lt hs a ea
      have h7 := hfr b eb
      omega

/-- the lists ss hold G, their copies ws (so far i) too; colours -/
def J1 (t : TypeId) (B B0 : Nat) (w : World) (n i : Nat) (ss ws : Nat → Sh) (G : Nat → List Nat) (col : Nat → Nat) : Prop :=
  (∀ j, j < n → OwnS t B w (ss j) (G j) ∧ HasCol col (ss j) (2 * j)) ∧ (∀ j, j < i → OwnS t B0 w (ws j) (G j) ∧ HasCol col (ws j) (2 * j + 1))
section
variable {t T : TypeId} {B B0 : Nat} {w w' : World} {n i : Nat} {ss ws : Nat → Sh} {G : Nat → List Nat} {col : Nat → Nat}
theorem J1.write {ys : List Nat} (h : J1 t B B0 w n i ss ws G col) (hi : i < n) (hx : Ex (Own1 (ss i)) w w') (ho : OwnS t B w' (ss i) ys) : J1 t B B0 w' n i ss ws (fun j => if j = i then ys else G j) col := by
  refine ⟨fun j hj => ⟨?_, (h.1 j hj).2⟩, fun j hj => ⟨?_, (h.2 j hj).2⟩⟩
  · by_cases hji : j = i
    · subst hji; simpa using ho
    · simp only [if_neg hji]
      exact keep_own (h.1 j hj).1 (h.1 j hj).2 (h.1 i hi).2 (by omega) hx
  · simp only [if_neg (show j ≠ i by omega)]
    exact keep_own (h.2 j hj).1 (h.2 j hj).2 (h.1 i hi).2 (by omega) hx
theorem J1.other {g : Sh} (h : J1 t B B0 w n i ss ws G col) (hg : HasCol col g (2 * i + 1)) (hx : Ex (Own1 g) w w') : J1 t B B0 w' n i ss ws G col :=
  ⟨fun j hj => ⟨keep_own (h.1 j hj).1 (h.1 j hj).2 hg (by omega) hx, (h.1 j hj).2⟩, fun j hj => ⟨keep_own (h.2 j hj).1 (h.2 j hj).2 hg (by omega) hx, (h.2 j hj).2⟩⟩
theorem J1.up {c : Nat} (h : J1 t B B0 w n i ss ws G col) : J1 t B B0 w n i ss ws G (upc col w.heap.size c) :=
  ⟨fun j hj => ⟨(h.1 j hj).1, (h.1 j hj).2.up (h.1 j hj).1.lt⟩, fun j hj => ⟨(h.2 j hj).1, (h.2 j hj).2.up (h.2 j hj).1.lt⟩⟩
theorem J1.row {A : Option Addr} {m c : Nat} {vs : List Value} (h : J1 t B B0 w n i ss ws G col) (hr : RowV T B0 w A m c vs) (hne : t ≠ T) (hx : Ex (fun b => ∃ a, A = some a ∧ a.block = b) w w') : J1 t B B0 w' n i ss ws G col :=
  ⟨fun j hj => ⟨keep_ownR (h.1 j hj).1 hr hne hx, (h.1 j hj).2⟩, fun j hj => ⟨keep_ownR (h.2 j hj).1 hr hne hx, (h.2 j hj).2⟩⟩
theorem J1.below (h : J1 t B B0 w n i ss ws G col) (hb : Below w.heap.size w w') : J1 t B B0 w' n i ss ws G col :=
  ⟨fun j hj => ⟨(h.1 j hj).1.below hb, (h.1 j hj).2⟩, fun j hj => ⟨(h.2 j hj).1.below hb, (h.2 j hj).2⟩⟩
theorem J1.snoc {s : Sh} (h : J1 t B B0 w n i ss ws G col) (hs : OwnS t B0 w s (G i)) (hc : HasCol col s (2 * i + 1)) : J1 t B B0 w n (i + 1) ss (fun j => if j = i then s else ws j) G col :=
  ⟨h.1, fun j hj => by
    by_cases hji : j = i
    · subst hji; simpa using ⟨hs, hc⟩
    · simp only [if_neg hji]; exact h.2 j (by omega)⟩
end
theorem range_snoc {i : Nat} {ws : Nat → Sh} {s : Sh} : ((List.range (i + 1)).map fun j => shv ((fun j => if j = i then s else ws j) j)) = ((List.range i).map fun j => shv (ws j)) ++ [shv s] := by
  rw [List.range_succ, List.map_append]
  congr 1
  · exact List.map_congr_left fun j hj => by have := List.mem_range.1 hj; simp [show j ≠ i by omega]
  · simp

/-- append of a row of headers, and where the new row lies -/
theorem wpList_appVs2 {P : Program} {T TT : TypeId} {B n c m c2 : Nat} {w : World} {A A2 : Option Addr} {vs us : List Value} {ops : Array Oper} {rest : List Oper} {o : Oper} {a : Act} {Q : Exit → Act → World → Prop} (hgd : o.guard = none) (s x : Operand)
    (ho : o.op = .call { callee := .builtin .append, args := #[s, x], argTypes := #[TT, TT] }) (he : ElemS P TT T)
    (hs : a.eval s = .slice A n c) (hx : a.eval x = .slice A2 m c2) (hown : RowV T B w A n c vs) (hr : RdV w A2 m c2 us) (hv : ∀ u ∈ us, u.oneCell' = true) (hm : 0 < m) (hlen : n + m ≤ 1099511627776) (hB : B ≤ w.heap.size)
    (h : ∀ A' c' w', RowV T B w' A' (n + m) c' (vs ++ us) → Below B w w' → w.grownBy w' (Value.slice A n c).ownBlock → (∀ b, A' = some b → Own1 (A, n, c) b.block ∨ b.block = w.heap.size) → wpList P ops Q rest (a.put o.dst (.slice A' (n + m) c')) w') : wpList P ops Q (o :: rest) a w := by
  obtain ⟨hT, hinfo⟩ := he
  obtain ⟨i, hi, hz, hs1, hb⟩ := info_parts hinfo
  obtain ⟨b, off, e, _, hc⟩ := hr.2 hm
  subst e
  refine wpList_append_own_at w hgd s x TT ho B T i (.slice none 0 0) 1 24 hT hi hz hs1 hb rfl (by decide) _ n _ hs hown ⟨b, off, none⟩ m c2 us hx (by have := hr.1.1; omega) ?_ hv (by simp only [maxLen]; omega) (by omega) hB ?_
  · intro j u hj
    rw [addo]
    have hjl : j < us.length := (List.getElem?_eq_some_iff.1 hj).1
    rw [hr.1.1] at hjl
    rw [hc j hjl, hj]
  · intro v' w' h1 h2 _ h4
    have hform : ∃ A' c', v' = .slice A' (n + m) c' := by
      rcases h1.2 with ⟨h3, h4⟩ | ⟨g, cap, cur, hv, _⟩
      · omega
      · exact ⟨_, _, hv⟩
    obtain ⟨A', c', rfl⟩ := hform
    refine h A' c' w' h1 ((Below.refl _ _).grown h2 hB (fun g hg' => (World.ownsRow.lt hown g hg').1)) h2 (fun b hb => ?_)
    subst hb
    rcases h4 with h4 | h4
    · left
      have := h4.symm
      cases A with
      | none => cases this
      | some a2 => injection this with this; exact ⟨a2, rfl, this⟩
    · right; injection h4
/-- the lists ss hold G; their copies ws, and so far what they have grown to (gs), hold C; from m on C is G -/
def J3 (t : TypeId) (B B0 : Nat) (w : World) (n i m : Nat) (ss ws gs : Nat → Sh) (G C : Nat → List Nat) (col : Nat → Nat) : Prop :=
  (∀ j, j < n → OwnS t B w (ss j) (G j) ∧ HasCol col (ss j) (2 * j)) ∧ (∀ j, j < n → OwnS t B0 w (ws j) (C j) ∧ HasCol col (ws j) (2 * j + 1)) ∧
  (∀ j, j < i → OwnS t B w (gs j) (C j) ∧ HasCol col (gs j) (2 * j)) ∧ (∀ j, j < n → ∃ e, C j = G j ++ e) ∧ (∀ j, m ≤ j → j < n → C j = G j)
section
variable {t T : TypeId} {B B0 : Nat} {w w' : World} {n i m : Nat} {ss ws gs : Nat → Sh} {G C : Nat → List Nat} {col : Nat → Nat}
theorem J3.below (h : J3 t B B0 w n i m ss ws gs G C col) (hb : Below w.heap.size w w') : J3 t B B0 w' n i m ss ws gs G C col :=
  ⟨fun j hj => ⟨(h.1 j hj).1.below hb, (h.1 j hj).2⟩, fun j hj => ⟨(h.2.1 j hj).1.below hb, (h.2.1 j hj).2⟩, fun j hj => ⟨(h.2.2.1 j hj).1.below hb, (h.2.2.1 j hj).2⟩, h.2.2.2⟩
theorem J3.up {c : Nat} (h : J3 t B B0 w n i m ss ws gs G C col) : J3 t B B0 w n i m ss ws gs G C (upc col w.heap.size c) :=
  ⟨fun j hj => ⟨(h.1 j hj).1, (h.1 j hj).2.up (OwnS.lt (h.1 j hj).1)⟩, fun j hj => ⟨(h.2.1 j hj).1, (h.2.1 j hj).2.up (OwnS.lt (h.2.1 j hj).1)⟩, fun j hj => ⟨(h.2.2.1 j hj).1, (h.2.2.1 j hj).2.up (OwnS.lt (h.2.2.1 j hj).1)⟩, h.2.2.2⟩
theorem J3.row {A : Option Addr} {q c : Nat} {vs : List Value} (h : J3 t B B0 w n i m ss ws gs G C col) (hr : RowV T B0 w A q c vs) (hne : t ≠ T) (hx : Ex (fun b => ∃ a, A = some a ∧ a.block = b) w w') : J3 t B B0 w' n i m ss ws gs G C col :=
  ⟨fun j hj => ⟨keep_ownR (h.1 j hj).1 hr hne hx, (h.1 j hj).2⟩, fun j hj => ⟨keep_ownR (h.2.1 j hj).1 hr hne hx, (h.2.1 j hj).2⟩, fun j hj => ⟨keep_ownR (h.2.2.1 j hj).1 hr hne hx, (h.2.2.1 j hj).2⟩, h.2.2.2⟩
theorem J3.grow {g : Sh} (h : J3 t B B0 w n i m ss ws gs G C col) (hi : i < n) (hg : HasCol col g (2 * i)) (hx : Ex (Own1 g) w w') (hs : OwnS t B w' (ss i) (G i)) : J3 t B B0 w' n i m ss ws gs G C col := by
  refine ⟨fun j hj => ⟨?_, (h.1 j hj).2⟩, fun j hj => ⟨keep_own (h.2.1 j hj).1 (h.2.1 j hj).2 hg (by omega) hx, (h.2.1 j hj).2⟩, fun j hj => ⟨keep_own (h.2.2.1 j hj).1 (h.2.2.1 j hj).2 hg (by omega) hx, (h.2.2.1 j hj).2⟩, h.2.2.2⟩
  by_cases hji : j = i
  · subst hji; exact hs
  · exact keep_own (h.1 j hj).1 (h.1 j hj).2 hg (by omega) hx
theorem J3.wgrow {s : Sh} {x : Nat} (h : J3 t B B0 w n i (i + 1) ss ws gs G C col) (hi : i < n) (hx : Ex (Own1 (ws i)) w w') (ho : OwnS t B0 w' s (C i ++ [x])) (hc : HasCol col s (2 * i + 1)) :
    J3 t B B0 w' n i (i + 1) ss (fun j => if j = i then s else ws j) gs G (fun j => if j = i then C i ++ [x] else C j) col := by
  have hw := (h.2.1 i hi).2
  refine ⟨fun j hj => ⟨keep_own (h.1 j hj).1 (h.1 j hj).2 hw (by omega) hx, (h.1 j hj).2⟩, fun j hj => ?_, fun j hj => ?_, fun j hj => ?_, fun j hj hj2 => ?_⟩
  · by_cases hji : j = i
    · subst hji; simpa using ⟨ho, hc⟩
    · simp only [if_neg hji]
      exact ⟨keep_own (h.2.1 j hj).1 (h.2.1 j hj).2 hw (by omega) hx, (h.2.1 j hj).2⟩
  · simp only [if_neg (show j ≠ i by omega)]
    exact ⟨keep_own (h.2.2.1 j hj).1 (h.2.2.1 j hj).2 hw (by omega) hx, (h.2.2.1 j hj).2⟩
  · by_cases hji : j = i
    · subst hji
      obtain ⟨e, he⟩ := h.2.2.2.1 j hj
      exact ⟨e ++ [x], by simp only [if_true]; rw [he, List.append_assoc]⟩
    · simp only [if_neg hji]; exact h.2.2.2.1 j hj
  · simp only [if_neg (show j ≠ i by omega)]
    exact h.2.2.2.2 j hj hj2
theorem J3.snoc {g : Sh} (h : J3 t B B0 w n i (i + 1) ss ws gs G C col) (hg : OwnS t B w g (C i)) (hc : HasCol col g (2 * i)) : J3 t B B0 w n (i + 1) (i + 1) ss ws (fun j => if j = i then g else gs j) G C col :=
  ⟨h.1, h.2.1, fun j hj => by
    by_cases hji : j = i
    · subst hji; simpa using ⟨hg, hc⟩
    · simp only [if_neg hji]; exact h.2.2.1 j (by omega), h.2.2.2⟩
theorem J3.less (h : J3 t B B0 w n i i ss ws gs G C col) : J3 t B B0 w n i (i + 1) ss ws gs G C col := ⟨h.1, h.2.1, h.2.2.1, h.2.2.2.1, fun j hj hj2 => h.2.2.2.2 j (by omega) hj2⟩
end
theorem range_set {n i : Nat} {ws : Nat → Sh} {s : Sh} (hi : i < n) : ((List.range n).map fun j => shv ((fun j => if j = i then s else ws j) j)) = ((List.range n).map fun j => shv (ws j)).set i (shv s) := by
  apply List.ext_getElem
  · simp
  · intro j h1 h2
    simp only [List.getElem_map, List.getElem_range, List.getElem_set]
    by_cases hji : i = j
    · subst hji; simp
    · simp [hji, show j ≠ i from fun e => hji e.symm]
end Go.Proofs.YtamfhmmcnlollaaGreat
