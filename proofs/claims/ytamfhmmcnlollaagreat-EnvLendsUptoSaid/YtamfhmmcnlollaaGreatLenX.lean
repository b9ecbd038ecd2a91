/-
  Lists in form over themselves; EnvLaws, walked. EnvLaws, walked. Lists of bindings that are written over: what they need to be, and what stays. surdlaw26.spoilPoly, spoil. Lists of bindings that are grown: what is behind each list may be written, nothing else turns. surdlaw26.grow. Lists of bindings, limb by limb: surdlaw26.copyNat, copyPoly, copyList copy them exactly; sameRaw says yes. Objects in blocks of their own: what they are in a world in which other blocks were written. Of in one form.
-/
import Derived.Test.YtamfhmmcnlollaaGreatJoL
namespace Go.Proofs.YtamfhmmcnlollaaGreat
open Go.RowKit
set_option linter.unusedVariables false
set_option linter.unusedSimpArgs false

theorem nrm_cfo {q : Cn} (h : Nat.gcd q.1.natAbs q.2 = 1) : nrm (cfo q) = q := by
  obtain ⟨z, d⟩ := q
  have h' : Nat.gcd z.natAbs d = 1 := h
  unfold nrm cfo
  simp only [h', Nat.div_one]
  refine Prod.ext ?_ rfl
  show sg (decide (z < 0)) z.natAbs = z
  unfold sg
  by_cases hz : z < 0
  · rw [decide_eq_true hz]; simp; omega
  · rw [decide_eq_false hz]; simp; omega
theorem nrm_gcd {r : Cf} (h : 0 < r.2.2) : Nat.gcd (nrm r).1.natAbs (nrm r).2 = 1 := by
  unfold nrm
  have hs : ∀ (s : Bool) (x : Nat), (sg s x).natAbs = x := fun s x => by
    unfold sg
    cases s <;> simp
  show Nat.gcd (sg r.1 (r.2.1 / Nat.gcd r.2.1 r.2.2)).natAbs (r.2.2 / Nat.gcd r.2.1 r.2.2) = 1
  rw [hs]
  exact Nat.gcd_div_gcd_div_gcd_of_pos_right h
theorem tlen_zero {z : Nat → Bool} : ∀ {n : Nat}, (∀ k, n = k + 1 → z k = false) → tlen z n = n
  | 0, _ => rfl
  | n + 1, h => by unfold tlen; rw [h n rfl]; rfl
theorem tlen_last (z : Nat → Bool) : ∀ n k, tlen z n = k + 1 → z k = false
  | 0, k, h => by simp [tlen] at h
  | n + 1, k, h => by
    unfold tlen at h
    split at h
    · exact tlen_last z n k h
    · rename_i hz
      have : n = k := by omega
      subst this
      simpa using hz
theorem ptrim_idem (qs : List Cn) : ptrim (ptrim qs) = ptrim qs := by
  have hle := tlen_le (zat qs) qs.length
  have hl : (ptrim qs).length = tlen (zat qs) qs.length := by unfold ptrim; rw [List.length_take]; omega
  have h : tlen (zat (ptrim qs)) (ptrim qs).length = (ptrim qs).length := by
    refine tlen_zero fun k hk => ?_
    have h1 := tlen_last (zat qs) qs.length k (by rw [← hl]; exact hk)
    unfold zat at h1 ⊢
    have : (ptrim qs)[k]? = qs[k]? := by unfold ptrim; rw [List.getElem?_take, if_pos (by omega)]
    rw [this]; exact h1
  show (ptrim qs).take (tlen (zat (ptrim qs)) (ptrim qs).length) = ptrim qs
  rw [h, List.take_length]
theorem pn_mem {rs : List Cf} {q : Cn} (h : q ∈ pn rs) : ∃ r ∈ rs, q = nrm r := by
  have := List.mem_of_mem_take h
  obtain ⟨r, h1, h2⟩ := List.mem_map.1 this
  exact ⟨r, h1, h2.symm⟩
theorem pn_cfo {rs : List Cf} (hp : ∀ r ∈ rs, 0 < r.2.2) : pn ((pn rs).map cfo) = pn rs := by
  have h : ((pn rs).map cfo).map nrm = pn rs := by
    rw [List.map_map]
    refine (List.map_congr_left fun q hq => ?_).trans (List.map_id _)
    obtain ⟨r, h1, rfl⟩ := pn_mem hq
    exact nrm_cfo (nrm_gcd (hp r h1))
  show ptrim (((pn rs).map cfo).map nrm) = pn rs
  rw [h]
  exact ptrim_idem _
theorem fitc_cfo {rs : List Cf} (h : fitc rs = 0) : fitc ((pn rs).map cfo) = 0 := by
  have hp := fitc_pos h
  have ha : ((pn rs).map cfo).all (fun r => decide (0 < r.2.2)) = true := by
    rw [List.all_eq_true]
    intro r hr
    obtain ⟨q, h1, rfl⟩ := List.mem_map.1 hr
    obtain ⟨r0, h2, rfl⟩ := pn_mem h1
    exact decide_eq_true (nrm_pos (hp r0 h2))
  have ha0 : rs.all (fun r => decide (0 < r.2.2)) = true := by
    rw [List.all_eq_true]
    intro r hr
    exact decide_eq_true (hp r hr)
  unfold fitc at h ⊢
  rw [if_pos ha0] at h
  rw [if_pos ha, pn_cfo hp]
  exact h
/-- in form, with a name -/
def OkQ (q : Bq) : Prop := ∃ b : Bn, rightc b = 0 ∧ q = fq b
theorem OkQ.right {q : Bq} (h : OkQ q) : rightc (bqo q) = 0 := by
  obtain ⟨b, h1, rfl⟩ := h
  obtain ⟨h2, h3⟩ := rightc_zero h1
  unfold rightc
  have e1 : nm (bqo (fq b)).1 = 0 := h2
  rw [if_pos e1]
  exact fitc_cfo h3
theorem OkQ.fq {q : Bq} (h : OkQ q) : fq (bqo q) = q := by
  obtain ⟨b, h1, rfl⟩ := h
  obtain ⟨h2, h3⟩ := rightc_zero h1
  exact Prod.ext rfl (pn_cfo (fitc_pos h3))
theorem insq_all {P : Bq → Prop} : ∀ {qs : List Bq} {b : Bq}, (∀ q ∈ qs, P q) → P b → ∀ q ∈ insq qs b, P q
  | [], b, _, hb, q, h => by simp [insq] at h; subst h; exact hb
  | x :: qs, b, ha, hb, q, h => by
    unfold insq at h
    split at h
    · rcases List.mem_cons.1 h with e | e
      · subst e; exact ha _ (List.mem_cons_self ..)
      · exact insq_all (fun y hy => ha y (List.mem_cons_of_mem _ hy)) hb q e
    · split at h
      · rcases List.mem_cons.1 h with e | e
        · subst e; exact hb
        · exact ha _ (List.mem_cons_of_mem _ e)
      · rcases List.mem_cons.1 h with e | e
        · subst e; exact hb
        · exact ha _ e
theorem ofq_all {P : Bq → Prop} : ∀ (bs : List Bn) (acc : List Bq), (∀ q ∈ acc, P q) → (∀ b ∈ bs, P (fq b)) → ∀ q ∈ ofq acc bs, P q
  | [], acc, ha, _, q, h => ha q h
  | b :: bs, acc, ha, hb, q, h => ofq_all bs (insq acc (b.1, pn b.2)) (insq_all ha (hb b (List.mem_cons_self ..))) (fun x hx => hb x (List.mem_cons_of_mem _ hx)) q h
theorem ofc_zero : ∀ {bs : List Bn}, ofc bs = 0 → ∀ b ∈ bs, rightc b = 0
  | [], _, b, h => by simp at h
  | x :: bs, h, b, hb => by
    unfold ofc at h
    split at h
    · rename_i h0
      rcases List.mem_cons.1 hb with e | e
      · subst e; exact h0
      · exact ofc_zero h b e
    · rename_i h0; exact absurd h h0
theorem map_fqo {qs : List Bq} (h : ∀ q ∈ qs, OkQ q) : (qs.map bqo).map fq = qs := by
  rw [List.map_map]
  exact (List.map_congr_left fun q hq => (h q hq).fq).trans (List.map_id _)
theorem good_own {qs : List Bq} (h : ∀ q ∈ qs, OkQ q) (hr : Rises qs) (hl : qs.length ≤ 64) : goodl (qs.map bqo) = true := by
  have hget : ∀ i, i < qs.length → ∃ q, qs[i]? = some q ∧ bnat (qs.map bqo) i = bqo q := fun i hi => by
    refine ⟨_, List.getElem?_eq_getElem hi, ?_⟩
    exact bnat_of (by rw [List.getElem?_map, List.getElem?_eq_getElem hi]; rfl)
  rw [goodl_all fun i hi => ?_, List.length_map]
  · exact decide_eq_true hl
  · rw [List.length_map] at hi
    obtain ⟨q, e1, e2⟩ := hget i hi
    have hq := (h q (List.mem_of_getElem? e1)).right
    cases i with
    | zero => rw [okAt_zero, e2, decide_eq_true hq]
    | succ k =>
      obtain ⟨q2, e3, e4⟩ := hget k (by omega)
      have h5 := hr k (k + 1) (by omega) hi
      rw [nat_eq e1, nat_eq e3] at h5
      rw [okAt_succ, e2, e4, decide_eq_true hq, decide_eq_true (show bcmp (bqo q2).1 (bqo q).1 < 0 from h5)]
      rfl
theorem asc_app : ∀ {l m : List ByteArray}, Asc (l ++ m) → ∀ x ∈ l, ∀ y ∈ m, bcmp x y < 0
  | [], m, _, x, hx, _, _ => by simp at hx
  | s :: l, m, h, x, hx, y, hy => by
    rcases List.mem_cons.1 hx with e | e
    · subst e; exact h.1 y (List.mem_append.2 (.inr hy))
    · exact asc_app h.2 x e y hy
theorem ofq_over {qs : List Bq} (ha : Asc (qs.map (·.1))) : ∀ (ss : List Bq), (∀ q ∈ ss, q ∈ qs ∧ fq (bqo q) = q) → ofq qs (ss.map bqo) = qs
  | [], _ => rfl
  | s :: ss, h => by
    have h1 := h s (List.mem_cons_self ..)
    show ofq (insq qs (fq (bqo s))) (ss.map bqo) = qs
    rw [h1.2, insq_self ha h1.1]
    exact ofq_over ha ss fun q hq => h q (List.mem_cons_of_mem _ hq)
theorem ofq_new : ∀ (ss pre : List Bq), Asc ((pre ++ ss).map (·.1)) → (∀ q ∈ ss, fq (bqo q) = q) → ofq pre (ss.map bqo) = pre ++ ss
  | [], pre, _, _ => by simp [ofq]
  | s :: ss, pre, ha, h => by
    show ofq (insq pre (fq (bqo s))) (ss.map bqo) = _
    rw [h s (List.mem_cons_self ..), insq_end fun q hq => ?_]
    · rw [ofq_new ss (pre ++ [s]) (by simpa using ha) fun q hq => h q (List.mem_cons_of_mem _ hq)]
      simp
    · rw [List.map_append] at ha
      exact asc_app ha q.1 (List.mem_map.2 ⟨q, hq, rfl⟩) s.1 (by simp)
theorem difm_self : ∀ (qs : List Bq), difm qs qs = []
  | [] => by rw [difm]; rfl
  | q :: qs => by
    rw [difm_eq (by rw [bcmp_self]; omega) (by rw [bcmp_self]; omega) rfl]
    exact difm_self qs
section
variable {qs : List Bq}
theorem self_laws (h : ∀ q ∈ qs, OkQ q) (hr : Rises qs) (hl : qs.length ≤ 64) :
    (ovc (qs.map bqo) (qs.map bqo) = 0 ∧ ovq (qs.map bqo) (qs.map bqo) = qs) ∧ (ovc (qs.map bqo) [] = 0 ∧ ovq (qs.map bqo) [] = qs) ∧ (ovc [] (qs.map bqo) = 0 ∧ ovq [] (qs.map bqo) = qs) ∧ smb (qs.map bqo) (qs.map bqo) = true := by
  have hg := good_own h hr hl
  have hf := map_fqo h
  have hn : goodl [] = true := by decide
  have e1 : ofq ((qs.map bqo).map fq) (qs.map bqo) = qs := by rw [hf]; exact ofq_over (rises_asc.1 hr) qs fun q hq => ⟨hq, (h q hq).fq⟩
  have e2 : ofq ((qs.map bqo).map fq) [] = qs := hf
  have e3 : ofq (([] : List Bn).map fq) (qs.map bqo) = qs := by
    have := ofq_new qs [] (by simpa using rises_asc.1 hr) fun q hq => (h q hq).fq
    simpa using this
  have c1 : ovc (qs.map bqo) (qs.map bqo) = 0 := ovc_ok hg hg (by rw [e1]; exact hl)
  have c2 : ovc (qs.map bqo) [] = 0 := ovc_ok hg hn (by rw [e2]; exact hl)
  have c3 : ovc [] (qs.map bqo) = 0 := ovc_ok hn hg (by rw [e3]; exact hl)
  refine ⟨⟨c1, (ovq_ok c1).trans e1⟩, ⟨c2, (ovq_ok c2).trans e2⟩, ⟨c3, (ovq_ok c3).trans e3⟩, ?_⟩
  have c4 : dfc (qs.map bqo) (qs.map bqo) = 0 := dfc_ok hg hg
  unfold smb
  rw [c4, dfl_ok c4, difm_self]
  rfl
end
end Go.Proofs.YtamfhmmcnlollaaGreat
namespace Go.Proofs.YtamfhmmcnlollaaGreat
open Go.RowKit
set_option linter.unusedVariables false
set_option linter.unusedSimpArgs false
theorem toldc_any {A : Option Addr} {n c L : Nat} {qs : List Bq} {w : World} (h : ListC L w A n c qs) (hn : n ≤ 1073741824) :
    Calls Tryz.prog 20 #[.slice A n c] w (fun e w' => ∃ A' c', e = .returned (.slice A' n c') ∧ ListC L w' A' n c' qs ∧ Below w.heap.size w w') := by
  obtain ⟨hs, h1, h3⟩ := h
  refine (told_26 h1 hn).mono ?_
  rintro e w' ⟨A', c', rfl, ho, hb⟩
  exact ⟨A', c', rfl, ⟨hs, ho.rd, h3.imp fun _ _ e => e.below hb⟩, hb⟩
end Go.Proofs.YtamfhmmcnlollaaGreat
namespace Go.Proofs.YtamfhmmcnlollaaGreat
open Go.RowKit
set_option linter.unusedVariables false
set_option linter.unusedSimpArgs false

/-- a row of words in the blocks of S, whatever it holds -/
def ShN (S : Nat → Prop) (w : World) (s : Sh) : Prop := (∃ xs, Own .u64 41 0 w s.1 s.2.1 s.2.2 xs) ∧ ∀ a, s.1 = some a → S a.block
/-- a row of rationals in the blocks of S -/
def ShP (S : Nat → Prop) (w : World) (s : Sh) : Prop := ∃ hs : List Hr, RowK 3 62 0 w s.1 s.2.1 s.2.2 (hs.flatMap hrv) ∧ (∀ a, s.1 = some a → S a.block) ∧ ∀ h ∈ hs, ShN S w h.2.1 ∧ ShN S w h.2.2
/-- a row of bindings in the blocks of S -/
def ShL (S : Nat → Prop) (w : World) (s : Sh) : Prop := ∃ hs : List Hb, RowK 2 57 0 w s.1 s.2.1 s.2.2 (hs.flatMap hbv) ∧ (∀ a, s.1 = some a → S a.block) ∧ ∀ h ∈ hs, ShP S w h.2 ∧ h.2.2.1 ≤ 1073741824
/-- only the blocks of S were written, and nothing lost its shape -/
structure Sp (S : Nat → Prop) (w w' : World) : Prop where
  ex : Ex S w w'
  n : ∀ s, ShN S w s → ShN S w' s
  p : ∀ s, ShP S w s → ShP S w' s
  l : ∀ A n c vs, RowK 2 57 0 w A n c vs → RowK 2 57 0 w' A n c vs
section
variable {S : Nat → Prop} {w w' w'' : World} {s : Sh}
theorem ShN.below (h : ShN S w s) (hb : Below w.heap.size w w') : ShN S w' s := ⟨h.1.imp fun _ e => e.below hb, h.2⟩
theorem ShP.below (h : ShP S w s) (hb : Below w.heap.size w w') : ShP S w' s := by
  obtain ⟨hs, h1, h2, h3⟩ := h
  exact ⟨hs, h1.below hb, h2, fun g hg => ⟨(h3 g hg).1.below hb, (h3 g hg).2.below hb⟩⟩
theorem ShL.below (h : ShL S w s) (hb : Below w.heap.size w w') : ShL S w' s := by
  obtain ⟨hs, h1, h2, h3⟩ := h
  exact ⟨hs, h1.below hb, h2, fun g hg => ⟨(h3 g hg).1.below hb, (h3 g hg).2⟩⟩
theorem ShN.nil : ShN S w (none, 0, 0) := ⟨⟨[], Own.nil⟩, fun _ e => nomatch e⟩
theorem ShP.nil : ShP S w (none, 0, 0) := ⟨[], RowK.nil, (fun _ e => nomatch e), fun _ h => by simp at h⟩
theorem Sp.refl : Sp S w w := ⟨Ex.refl _ _, fun _ h => h, fun _ h => h, fun _ _ _ _ h => h⟩
theorem Sp.trans (h : Sp S w w') (k : Sp S w' w'') : Sp S w w'' := ⟨h.ex.trans k.ex, fun s e => k.n s (h.n s e), fun s e => k.p s (h.p s e), fun A n c vs e => k.l A n c vs (h.l A n c vs e)⟩
theorem Sp.below (hb : Below w.heap.size w w') : Sp S w w' := ⟨Ex.of_below hb, fun s e => e.below hb, fun s e => e.below hb, fun A n c vs e => e.below hb⟩
theorem Sp.list (h : Sp S w w') (e : ShL S w s) : ShL S w' s := by
  obtain ⟨hs, h1, h2, h3⟩ := e
  exact ⟨hs, h.l _ _ _ _ h1, h2, fun g hg => ⟨h.p _ (h3 g hg).1, (h3 g hg).2⟩⟩
/-- a word is written -/
theorem Own.wordAny {g i x n c m d : Nat} {xs ys : List Nat} {A : Option Addr} (h : Own .u64 41 0 w (some ⟨g, 0, none⟩) n c xs) (h2 : Own .u64 41 0 w A m d ys) :
    ∃ zs, Own .u64 41 0 (w.setCell ⟨g, i, none⟩ (.int .u64 (x : Int))) A m d zs := by
  have st := (World.ownsRow.stored (j := i) (u := .int .u64 (x : Int)) h).2
  by_cases hA : A = some ⟨g, 0, none⟩
  · subst hA
    exact ⟨_, h2.stored⟩
  · refine ⟨ys, World.ownsRow.kept h2 st ?_⟩
    rcases h2.2 with ⟨h3, _⟩ | ⟨g', cap, cur, hv, _⟩
    · left; rw [h3]; rfl
    · right
      rw [hv]
      intro e
      simp only [Value.ownBlock, Option.some.injEq] at e
      injection hv with e1 _ _
      subst e
      exact hA e1
theorem Sp.word {g i x n c : Nat} {xs : List Nat} (h : Own .u64 41 0 w (some ⟨g, 0, none⟩) n c xs) (hS : S g) : Sp S w (w.setCell ⟨g, i, none⟩ (.int .u64 (x : Int))) := by
  have st := (World.ownsRow.stored (j := i) (u := .int .u64 (x : Int)) h).2
  have hn : ∀ s, ShN S w s → ShN S (w.setCell ⟨g, i, none⟩ (.int .u64 (x : Int))) s := fun s e => by
    obtain ⟨⟨ys, h1⟩, h2⟩ := e
    exact ⟨h.wordAny h1, h2⟩
  refine ⟨Ex.setCell _ _ _ _ hS, hn, fun s e => ?_, fun A n c vs e => e.other h (by decide) st⟩
  obtain ⟨hs, h1, h2, h3⟩ := e
  exact ⟨hs, h1.other h (by decide) st, h2, fun g hg => ⟨hn _ (h3 g hg).1, hn _ (h3 g hg).2⟩⟩
theorem flat3_set {α : Type} (f : α → List Value) (hf : ∀ x, (f x).length = 3) : ∀ (l : List α) (j : Nat) (x : α) (a b c : Value), f x = [a, b, c] → (((l.flatMap f).set (j * 3) a).set (j * 3 + 1) b).set (j * 3 + 2) c = (l.set j x).flatMap f
  | [], j, x, a, b, c, _ => by simp
  | y :: l, 0, x, a, b, c, hx => by
    have := hf y
    match hy : f y, this with
    | [p, q, r], _ => simp [List.flatMap_cons, hy, hx]
  | y :: l, j + 1, x, a, b, c, hx => by
    rw [List.set_cons_succ, List.flatMap_cons, List.flatMap_cons, ← flat3_set f hf l j x a b c hx, List.set_append_right _ _ (by rw [hf]; omega), List.set_append_right _ _ (by rw [hf]; omega), List.set_append_right _ _ (by rw [hf]; omega), hf]
    congr 4
    · omega
    · omega
    · omega
abbrev zRat : Hr := (false, (none, 0, 0), (none, 0, 0))
abbrev ratSet (w : World) (g j : Nat) : World := ((w.setCell ⟨g, j * 3, none⟩ (.bool false)).setCell ⟨g, j * 3 + 1, none⟩ (.slice none 0 0)).setCell ⟨g, j * 3 + 2, none⟩ (.slice none 0 0)
theorem RowK.ratSet {g j n c : Nat} {gs : List Hr} (h : RowK 3 62 0 w (some ⟨g, 0, none⟩) n c (gs.flatMap hrv)) :
    RowK 3 62 0 (ratSet w g j) (some ⟨g, 0, none⟩) n c ((gs.set j zRat).flatMap hrv) ∧ w.grownBy (YtamfhmmcnlollaaGreat.ratSet w g j) (some g) := by
  have s1 := World.ownsRow.stored (j := j * 3) (u := .bool false) h
  have s2 := World.ownsRow.stored (j := j * 3 + 1) (u := .slice none 0 0) s1.1
  have s3 := World.ownsRow.stored (j := j * 3 + 2) (u := .slice none 0 0) s2.1
  refine ⟨?_, World.grownBy.trans (World.grownBy.trans s1.2 s2.2) s3.2⟩
  rw [← flat3_set hrv hrv_len gs j zRat (.bool false) (.slice none 0 0) (.slice none 0 0) rfl]
  exact s3.1
/-- a rational is written over with none -/
theorem Sp.rat {g j n c : Nat} {gs : List Hr} (h : RowK 3 62 0 w (some ⟨g, 0, none⟩) n c (gs.flatMap hrv)) (hS : S g) : Sp S w (ratSet w g j) := by
  have st := (h.ratSet (j := j)).2
  have hn : ∀ s, ShN S w s → ShN S (ratSet w g j) s := fun s e => by
    obtain ⟨⟨ys, h1⟩, h2⟩ := e
    exact ⟨⟨ys, RowK.other (k := 1) (T := 41) (vs := ys.map (iv .u64)) h1 h (by decide) st⟩, h2⟩
  refine ⟨Ex.grown st (fun k e => by injection e with e; subst e; exact hS), hn, fun s e => ?_, fun A n c vs e => e.other h (by decide) st⟩
  obtain ⟨hs, h1, h2, h3⟩ := e
  by_cases hA : s.1 = some ⟨g, 0, none⟩
  · rw [hA] at h1
    refine ⟨hs.set j zRat, by rw [hA]; exact h1.ratSet.1, h2, fun h' hh => ?_⟩
    rcases List.mem_or_eq_of_mem_set hh with hh | rfl
    · exact ⟨hn _ (h3 h' hh).1, hn _ (h3 h' hh).2⟩
    · exact ⟨ShN.nil, ShN.nil⟩
  · refine ⟨hs, World.ownsRow.kept h1 st ?_, h2, fun h' hh => ⟨hn _ (h3 h' hh).1, hn _ (h3 h' hh).2⟩⟩
    rcases h1.2 with ⟨h4, _⟩ | ⟨g', cap, cur, hv, _⟩
    · left; rw [h4]; rfl
    · right
      rw [hv]
      intro e
      simp only [Value.ownBlock, Option.some.injEq] at e
      injection hv with e1 _ _
      subst e
      exact hA e1
/-- a binding is written over -/
theorem ShL.mark {g i n c : Nat} {t : ByteArray} (h : ShL S w (some ⟨g, 0, none⟩, n, c)) : ShL S ((w.setCell ⟨g, i * 2, none⟩ (.string t)).setCell ⟨g, i * 2 + 1, none⟩ (.slice none 0 0)) (some ⟨g, 0, none⟩, n, c) ∧ Ex S w ((w.setCell ⟨g, i * 2, none⟩ (.string t)).setCell ⟨g, i * 2 + 1, none⟩ (.slice none 0 0)) := by
  obtain ⟨hs, h1, h2, h3⟩ := h
  have s1 := World.ownsRow.stored (j := i * 2) (u := .string t) h1
  have s2 := World.ownsRow.stored (j := i * 2 + 1) (u := .slice none 0 0) s1.1
  have st := World.grownBy.trans s1.2 s2.2
  have hn : ∀ s, ShN S w s → ShN S ((w.setCell ⟨g, i * 2, none⟩ (.string t)).setCell ⟨g, i * 2 + 1, none⟩ (.slice none 0 0)) s := fun s e => by
    obtain ⟨⟨ys, h1'⟩, h2'⟩ := e
    exact ⟨⟨ys, RowK.other (k := 1) (T := 41) (vs := ys.map (iv .u64)) h1' h1 (by decide) st⟩, h2'⟩
  have hp : ∀ s, ShP S w s → ShP S ((w.setCell ⟨g, i * 2, none⟩ (.string t)).setCell ⟨g, i * 2 + 1, none⟩ (.slice none 0 0)) s := fun s e => by
    obtain ⟨hs', h1', h2', h3'⟩ := e
    exact ⟨hs', h1'.other h1 (by decide) st, h2', fun g hg => ⟨hn _ (h3' g hg).1, hn _ (h3' g hg).2⟩⟩
  refine ⟨⟨hs.set i (t, (none, 0, 0)), ?_, h2, fun h' hh => ?_⟩, Ex.grown st (fun k e => by injection e with e; subst e; exact h2 _ rfl)⟩
  · rw [← flat2_set hbv hbv_len hs i (t, (none, 0, 0)) (.string t) (.slice none 0 0) rfl]
    exact s2.1
  · rcases List.mem_or_eq_of_mem_set hh with hh | rfl
    · exact ⟨hp _ (h3 h' hh).1, (h3 h' hh).2⟩
    · exact ⟨ShP.nil, by simp⟩
end
/-- the cells of a rational of a row -/
theorem RowK.at3 {w : World} {g n c i B : Nat} {T : TypeId} {hs : List Hr} {h : Hr} (H : RowK 3 T B w (some ⟨g, 0, none⟩) n c (hs.flatMap hrv)) (hi : hs[i]? = some h) : At w ⟨g, i * 3, none⟩ (.bool h.1) ∧ At w ⟨g, i * 3 + 1, none⟩ (shv h.2.1) ∧ At w ⟨g, i * 3 + 2, none⟩ (shv h.2.2) := by
  have hl := H.len
  rw [flat3_len hrv hrv_len] at hl
  have hin : i < n := by have := (List.getElem?_eq_some_iff.1 hi).1; omega
  have hlt : g < w.heap.size := (H.lies _ rfl).2
  refine ⟨⟨?_, hlt⟩, ⟨?_, hlt⟩, ⟨?_, hlt⟩⟩
  · rw [H.cell (by omega)]; have := flat3 hrv hrv_len hs i 0 h hi (by omega); rwa [Nat.add_zero] at this
  · rw [H.cell (by omega)]; exact flat3 hrv hrv_len hs i 1 h hi (by omega)
  · rw [H.cell (by omega)]; exact flat3 hrv hrv_len hs i 2 h hi (by omega)
theorem ShP.len {S : Nat → Prop} {w : World} {A : Option Addr} {n c : Nat} {hs : List Hr} (h : RowK 3 62 0 w A n c (hs.flatMap hrv)) : hs.length = n := by
  have := h.len
  rw [flat3_len hrv hrv_len] at this
  omega
/-- one row of words is filled with 77 (or 78) -/
theorem ShN.room {S : Nat → Prop} {w : World} {A : Option Addr} {n c k : Nat} (h : ShN S w (A, n, c)) (hk : k < n) : ∃ g xs x, A = some ⟨g, 0, none⟩ ∧ S g ∧ Own .u64 41 0 w (some ⟨g, 0, none⟩) n c xs ∧ w.cell? ⟨g, k, none⟩ = some (.int .u64 ((x : Nat) : Int)) ∧ w.frozen? ⟨g, k, none⟩ = false := by
  obtain ⟨⟨xs, h1⟩, h2⟩ := h
  simp only at h1
  obtain ⟨g, rfl, _, _⟩ := h1.form (by omega)
  exact ⟨g, xs, _, rfl, h2 _ rfl, h1, h1.cell hk, h1.frozen⟩
set_option maxHeartbeats 4000000 in
theorem spoilPoly_any {S : Nat → Prop} {A : Option Addr} {n c : Nat} {w : World} (h : ShP S w (A, n, c)) (hn : n ≤ 1073741824) :
    Calls Tryz.prog 31 #[.slice A n c] w (fun e w' => e = .returned (.tuple #[]) ∧ Sp S w w') := by
  have H := Lib.hid h
  clear h
  go_enter Tryz.func31, Tryz.ntmps31
  go_wp2
  go_loopw [7] (fun kv wr => ∃ i : Nat, Hid (Sp S w wr) ∧ i ≤ n ∧ kv = .int .i64 (i : Int)) (fun kv _ => n - (intOf kv).toNat)
  case atStart => exact ⟨0, Sp.refl, Nat.zero_le _, rfl⟩
  case round =>
    obtain ⟨i, hI, hi, rfl⟩ := hrel
    by_cases hlt : i < n
    · obtain ⟨hs, k1, k2, k3⟩ := hI.out.p _ H.out
      simp only at k1 k2
      obtain ⟨g, rfl, _, _⟩ := k1.form (by omega)
      obtain ⟨hd, ehd⟩ : ∃ hd, hs[i]? = some hd := ⟨_, List.getElem?_eq_getElem (by rw [ShP.len (S := S) k1]; exact hlt)⟩
      have HS : Hid (S g) := k2 _ rfl
      have HR := Lib.hid k1
      have HD := Lib.hid ehd
      have HN := Lib.hid (k3 hd (List.mem_of_getElem? ehd))
      clear k1 k2 k3 ehd
      obtain ⟨wq, rfl⟩ : ∃ wq : World, wq = wr := ⟨_, rfl⟩
      obtain ⟨s, ⟨A1, n1, c1⟩, ⟨A2, n2, c2⟩⟩ := hd
      have HN1 : Hid (ShN S wq (A1, n1, c1)) := HN.out.1
      have HN2 : Hid (ShN S wq (A2, n2, c2)) := HN.out.2
      have l1 : n1 ≤ 9223372036854775807 := by obtain ⟨⟨xs, h1⟩, _⟩ := HN1.out; have := h1.cap; simp only at this; unfold maxLen at this; omega
      have l2 : n2 ≤ 9223372036854775807 := by obtain ⟨⟨xs, h1⟩, _⟩ := HN2.out; have := h1.cap; simp only at this; unfold maxLen at this; omega
      have HX : ∀ w', Hid (RowK 3 62 0 w' (some ⟨g, 0, none⟩) n c (hs.flatMap hrv)) → w'.cell? ⟨g, i * 3, none⟩ = some (.bool s) ∧ w'.cell? ⟨g, i * 3 + 1, none⟩ = some (.slice A1 n1 c1) ∧ w'.cell? ⟨g, i * 3 + 2, none⟩ = some (.slice A2 n2 c2) := fun w' h' => ⟨(h'.out.at3 HD.out).1.1, (h'.out.at3 HD.out).2.1.1, (h'.out.at3 HD.out).2.2.1⟩
      have HX := Lib.hid HX
      have i1 : (0 : Int) ≤ (i : Int) := by omega
      have i2 : (i : Int) < (n : Int) := by omega
      obtain ⟨x0, x1, x2⟩ := HX.out _ HR
      go_wp2_with fail
      clear x0 x1 x2
      go_loopw [17] (fun kv wr => ∃ k : Nat, Hid (Sp S wq wr ∧ RowK 3 62 0 wr (some ⟨g, 0, none⟩) n c (hs.flatMap hrv)) ∧ k ≤ n1 ∧ kv = .int .i64 (k : Int)) (fun kv _ => n1 - (intOf kv).toNat)
      case atStart => exact ⟨0, ⟨Sp.refl, HR.out⟩, Nat.zero_le _, rfl⟩
      case round =>
        obtain ⟨k, hJ, hk, rfl⟩ := hrel
        by_cases hlt2 : k < n1
        · obtain ⟨x0, x1, x2⟩ := HX.out _ hJ.out.2
          obtain ⟨g1, xs, x, rfl, hSg, ho, y1, y2⟩ := (hJ.out.1.n _ HN1.out).room hlt2
          have HJ : Hid (Sp S wq (wr.setCell ⟨g1, k, none⟩ (.int .u64 ((77 : Nat) : Int))) ∧ RowK 3 62 0 (wr.setCell ⟨g1, k, none⟩ (.int .u64 ((77 : Nat) : Int))) (some ⟨g, 0, none⟩) n c (hs.flatMap hrv)) := ⟨hJ.out.1.trans (Sp.word ho hSg), hJ.out.2.other ho (by decide) (World.ownsRow.stored (j := k) (u := .int .u64 ((77 : Nat) : Int)) ho).2⟩
          clear ho hJ
          have j1 : (0 : Int) ≤ (k : Int) := by omega
          have j2 : (k : Int) < (n1 : Int) := by omega
          go_wp2
          go_roundw
          case rel => exact ⟨k + 1, HJ, by omega, by go_num⟩
          case measure => simp [intOf]; omega
        · obtain rfl : n1 = k := by omega
          obtain ⟨we, rfl⟩ : ∃ we : World, we = wr := ⟨_, rfl⟩
          obtain ⟨x0, x1, x2⟩ := HX.out _ hJ.out.2
          go_wp2_with fail
          clear x0 x1 x2
          go_loopw [35] (fun kv wr => ∃ k : Nat, Hid (Sp S wq wr ∧ RowK 3 62 0 wr (some ⟨g, 0, none⟩) n c (hs.flatMap hrv)) ∧ k ≤ n2 ∧ kv = .int .i64 (k : Int)) (fun kv _ => n2 - (intOf kv).toNat)
          case atStart => exact ⟨0, hJ, Nat.zero_le _, rfl⟩
          case round =>
            clear hJ
            obtain ⟨k, hJ, hk, rfl⟩ := hrel
            by_cases hlt2 : k < n2
            · obtain ⟨x0, x1, x2⟩ := HX.out _ hJ.out.2
              obtain ⟨g1, xs, x, rfl, hSg, ho, y1, y2⟩ := (hJ.out.1.n _ HN2.out).room hlt2
              have HJ : Hid (Sp S wq (wr.setCell ⟨g1, k, none⟩ (.int .u64 ((78 : Nat) : Int))) ∧ RowK 3 62 0 (wr.setCell ⟨g1, k, none⟩ (.int .u64 ((78 : Nat) : Int))) (some ⟨g, 0, none⟩) n c (hs.flatMap hrv)) := ⟨hJ.out.1.trans (Sp.word ho hSg), hJ.out.2.other ho (by decide) (World.ownsRow.stored (j := k) (u := .int .u64 ((78 : Nat) : Int)) ho).2⟩
              clear ho hJ
              have j1 : (0 : Int) ≤ (k : Int) := by omega
              have j2 : (k : Int) < (n2 : Int) := by omega
              go_wp2
              go_roundw
              case rel => exact ⟨k + 1, HJ, by omega, by go_num⟩
              case measure => simp [intOf]; omega
            · obtain rfl : n2 = k := by omega
              obtain ⟨x0, x1, x2⟩ := HX.out _ hJ.out.2
              have z0 := hJ.out.2.frozen (i := i * 3)
              have z1 := hJ.out.2.frozen (i := i * 3 + 1)
              have z2 := hJ.out.2.frozen (i := i * 3 + 2)
              have HJ : Hid (Sp S w (ratSet wr g i)) := (hI.out.trans hJ.out.1).trans (Sp.rat hJ.out.2 HS.out)
              clear hJ hI
              go_wp2
              go_roundw
              case rel => exact ⟨i + 1, HJ, by omega, by go_num⟩
              case measure => simp [intOf]; omega
    · obtain rfl : n = i := by omega
      go_wp2
      go_end0
      exact ⟨rfl, hI.out⟩
theorem RowK.at2s {w : World} {g n c i B : Nat} {T : TypeId} {hs : List Hb} {h : Hb} (H : RowK 2 T B w (some ⟨g, 0, none⟩) n c (hs.flatMap hbv)) (hi : hs[i]? = some h) : At w ⟨g, i * 2, none⟩ (.string h.1) ∧ At w ⟨g, i * 2 + 1, none⟩ (shv h.2) := by
  have hl := H.len
  rw [flat2_len hbv hbv_len] at hl
  have hin : i < n := by have := (List.getElem?_eq_some_iff.1 hi).1; omega
  have hlt : g < w.heap.size := (H.lies _ rfl).2
  refine ⟨⟨?_, hlt⟩, ⟨?_, hlt⟩⟩
  · rw [H.cell (by omega)]; have := flat2 hbv hbv_len hs i 0 h hi (by omega); rwa [Nat.add_zero] at this
  · rw [H.cell (by omega)]; exact flat2 hbv hbv_len hs i 1 h hi (by omega)
set_option maxHeartbeats 4000000 in
theorem spoil_any {S : Nat → Prop} {A : Option Addr} {n c : Nat} {w : World} (h : ShL S w (A, n, c)) (hn : n ≤ 1073741824) :
    Calls Tryz.prog 23 #[.slice A n c] w (fun e w' => e = .returned (.tuple #[]) ∧ Ex S w w') := by
  have H := Lib.hid h
  clear h
  go_enter Tryz.func23, Tryz.ntmps23
  go_wp2
  go_loopw [5] (fun kv wr => ∃ i : Nat, Hid (ShL S wr (A, n, c) ∧ Ex S w wr) ∧ i ≤ n ∧ kv = .int .i64 (i : Int)) (fun kv _ => n - (intOf kv).toNat)
  case atStart => exact ⟨0, ⟨H.out, Ex.refl _ _⟩, Nat.zero_le _, rfl⟩
  case round =>
    obtain ⟨i, hI, hi, rfl⟩ := hrel
    by_cases hlt : i < n
    · obtain ⟨hs, k1, k2, k3⟩ := hI.out.1
      simp only at k1 k2
      obtain ⟨g, rfl, _, _⟩ := k1.form (by omega)
      have hl := k1.len
      rw [flat2_len hbv hbv_len] at hl
      obtain ⟨hd, ehd⟩ : ∃ hd, hs[i]? = some hd := ⟨_, List.getElem?_eq_getElem (by omega)⟩
      have HR := Lib.hid k1
      have HD := Lib.hid ehd
      have HP := Lib.hid (k3 hd (List.mem_of_getElem? ehd))
      clear k1 k2 k3 ehd hl
      obtain ⟨t0, ⟨A1, n1, c1⟩⟩ := hd
      have hn1 : n1 ≤ 1073741824 := HP.out.2
      have i1 : (0 : Int) ≤ (i : Int) := by omega
      have i2 : (i : Int) < (n : Int) := by omega
      have x0 := (HR.out.at2s HD.out).1.1
      have x1 := (HR.out.at2s HD.out).2.1
      go_wp2_with fail
      refine (spoilPoly_any HP.out.1 hn1).mono ?_
      rintro e w1 ⟨rfl, hsp⟩
      clear x0 x1
      have HR1 := Lib.hid (hsp.l _ _ _ _ HR.out)
      have HJ := Lib.hid ((hsp.list hI.out.1).mark (i := i) (t := ByteArray.mk #[109, 97, 114, 107]))
      have HX := Lib.hid ((hI.out.2.trans hsp.ex).trans HJ.out.2)
      have x0 := (HR1.out.at2s HD.out).1.1
      have x1 := (HR1.out.at2s HD.out).2.1
      have z0 := HR1.out.frozen (i := i * 2)
      have z1 := HR1.out.frozen (i := i * 2 + 1)
      clear hI hsp
      go_wp2
      go_roundw
      case rel => exact ⟨i + 1, ⟨HJ.out.1, HX.out⟩, by omega, by go_num⟩
      case measure => simp [intOf]; omega
    · obtain rfl : n = i := by omega
      go_wp2
      go_end0
      exact ⟨rfl, hI.out.2⟩
end Go.Proofs.YtamfhmmcnlollaaGreat
namespace Go.Proofs.YtamfhmmcnlollaaGreat
open Go.RowKit
set_option linter.unusedVariables false
set_option linter.unusedSimpArgs false

section
variable {k : Nat} {T TT : TypeId} {B n c m c2 bytes : Nat} {w w' : World} {A A2 : Option Addr} {vs us : List Value} {P : Program} {z : Value}
theorem RowK.kept_grown (h : RowK k T B w A n c vs) (hg : w.grownBy w' none) : RowK k T B w' A n c vs := by
  refine World.ownsRow.kept h hg ?_
  rcases h.2 with ⟨h1, _⟩ | ⟨g, cap, cur, hv, _, hh, _⟩
  · left; rw [h1]; rfl
  · right; rw [hv]; simp [Value.ownBlock]
/-- append of elements of k cells: the old slice is as it was -/
theorem appK_keeps {ad : Addr} (ty : TypeId) (he : ElemK P TT T z k bytes) (hown : RowK k T B w A n c vs) (hr : RdK k w (some ad) m c2 us) (hv1 : ∀ u ∈ us, u.oneCell' = true) (hm : 0 < m) (hlen : n + m ≤ 1099511627776) (hB : B ≤ w.heap.size) :
    ∃ v' w', (Builtin.append_ #[TT, TT] ty #[.slice A n c, .slice (some ad) m c2]).run P w = .ok v' w' ∧ RowK k T B w' A n c vs ∧ w.grownBy w' (Value.slice A n c).ownBlock := by
  obtain ⟨⟨hT, hinfo⟩, hzs, hk, hby⟩ := id he
  obtain ⟨i, hi, hz, hs, hb⟩ := info_parts hinfo
  have hcells : ∀ j u, us[j]? = some u → w.cell? (ad.add j) = some u := by
    intro j u hj
    obtain ⟨b, off, e, _, hc⟩ := hr.2 hm
    injection e with e
    subst e
    rw [addo]
    have hjl : j < us.length := (List.getElem?_eq_some_iff.1 hj).1
    rw [hr.1.1] at hjl
    rw [hc j hjl, hj]
  rcases id hown.2 with ⟨hv, hn0⟩ | ⟨g, cap, cur, hv, hg, hh, hnc, hcm, hcs, ht⟩
  · obtain ⟨A', c', w', hrun, h2, h3, h4⟩ := run_appK (c2 := c2) ty he hown hr hv1 hm hlen hB
    injection hv with e1 e2 e3
    subst e1; subst e2; subst e3
    have hx : vs = [] := List.eq_nil_of_length_eq_zero (by have := hown.len; omega)
    subst hx
    exact ⟨_, w', hrun, RowK.nil, h4⟩
  · injection hv with e1 _ e3
    subst e1; subst e3
    by_cases hroom : n + m ≤ c
    · obtain ⟨w', hrun, h2, h3⟩ := run_append_fits (P := P) w B TT ty T i k hT hi hs g n c vs hown ad m c2 us hr.1.1 hcells hv1 hroom
      refine ⟨_, w', hrun, ?_, h3⟩
      have h2' : RowK k T B w' (some ⟨g, 0, none⟩) (n + m) c (vs ++ us) := h2
      have h5 := h2'.upto (j := n) (by omega) (by omega)
      rwa [List.take_left' hown.len] at h5
    · obtain ⟨v', w', hrun, r1, r2⟩ := run_append_arg_grows (P := P) w TT ty T i z k bytes hT hi hz hs hb hzs hk ⟨g, 0, none⟩ n c vs hown.len (fun j u hj => (World.ownsRow.cells hown (g := g) rfl) j u hj) ad m c2 us hr.1.1 hcells (by omega) (by simp only [maxLen]; omega) (by
        calc (n + m) * bytes ≤ 1099511627776 * 64 := Nat.mul_le_mul hlen hby
          _ ≤ 140737488355328 := by decide)
      exact ⟨v', w', hrun, hown.kept_grown r2, grown_some r2⟩
theorem wpList_keepK {ops : Array Oper} {rest : List Oper} {o : Oper} {a : Act} {Q : Exit → Act → World → Prop} {ad : Addr} (hgd : o.guard = none) (s x : Operand)
    (ho : o.op = .call { callee := .builtin .append, args := #[s, x], argTypes := #[TT, TT] }) (he : ElemK P TT T z k bytes)
    (hs : a.eval s = .slice A n c) (hx : a.eval x = .slice (some ad) m c2) (hown : RowK k T B w A n c vs) (hr : RdK k w (some ad) m c2 us) (hv : ∀ u ∈ us, u.oneCell' = true) (hm : 0 < m) (hlen : n + m ≤ 1099511627776) (hB : B ≤ w.heap.size)
    (h : ∀ v' w', RowK k T B w' A n c vs → w.grownBy w' (Value.slice A n c).ownBlock → wpList P ops Q rest (a.put o.dst v') w') : wpList P ops Q (o :: rest) a w := by
  refine wpList_plain hgd fun K hK => ?_
  obtain ⟨v', w', hrun, h2, h4⟩ := appK_keeps (P := P) o.type he hown hr hv hm hlen hB
  unfold Oper.wp execOp
  simp only [ho, resolve, invoke, builtin, Sem.run_bind, Sem.run_pure, Result.andThen_ok, List.map_toArray, List.map_cons, List.map_nil, hs, hx, hrun]
  exact hK _ _ (h v' w' h2 h4)
end
section
variable {S T : Nat → Prop} {B L n c : Nat} {w w' : World} {A : Option Addr} {hs : List Hr} {qs : List Cn}
theorem RowK.exA {k : Nat} {t : TypeId} {vs : List Value} (h : RowK k t B w A n c vs) (hx : Ex S w w') (hd : ∀ a, A = some a → ¬ S a.block) : RowK k t B w' A n c vs := by
  refine ⟨h.1, ?_⟩
  rcases h.2 with h3 | ⟨g, cap, cur, hv, hg, hh, r⟩
  · exact .inl h3
  · refine .inr ⟨g, cap, cur, hv, hg, ?_, r⟩
    have e1 : A = some ⟨g, 0, none⟩ := by injection hv
    rw [hx.block g (Array.getElem?_eq_some_iff.1 hh).1 (hd _ e1)]
    exact hh
theorem PolyS.exd {v : Value} (H : PolyS T B L w v qs) (hx : Ex S w w') (hd : ∀ b, T b → ¬ S b) : PolyS T B L w' v qs := by
  obtain ⟨A, n, c, hs, rfl, h1, h2, h3, h4, h5⟩ := H
  refine ⟨A, n, c, hs, rfl, h1.exA hx (fun a e => hd _ (h5.1 a e)), h2, ⟨h3.1, fun i h q e1 e2 => ?_⟩, h4, h5⟩
  have h6 := h3.2 i h q e1 e2
  have h7 := h5.2 h (List.mem_of_getElem? e1)
  exact ⟨h6.1, ⟨h6.2.1.1.ex hx (fun a e => hd _ (h7 _ (by simp [hnums]) a e)), h6.2.1.2⟩, h6.2.2.1.ex hx (fun a e => hd _ (h7 _ (by simp [hnums]) a e)), h6.2.2.2⟩
/-- a polynomial with its headers in sight -/
def PolyH (S : Nat → Prop) (B L : Nat) (w : World) (A : Option Addr) (n c : Nat) (hs : List Hr) (qs : List Cn) : Prop := RowK 3 62 B w A n c (hs.flatMap hrv) ∧ n = qs.length ∧ All2 (CanO B L w) hs qs ∧ AptH hs ∧ InS S A hs
theorem PolyS.h {A : Option Addr} {n c : Nat} (H : PolyS S B L w (.slice A n c) qs) : ∃ hs, PolyH S B L w A n c hs qs := by
  obtain ⟨_, _, _, hs, e, h⟩ := H
  injection e with e1 e2 e3
  subst e1 e2 e3
  exact ⟨hs, h⟩
theorem PolyH.s (H : PolyH S B L w A n c hs qs) : PolyS S B L w (.slice A n c) qs := ⟨A, n, c, hs, rfl, H⟩
theorem PolyH.below (H : PolyH S B L w A n c hs qs) (hb : Below w.heap.size w w') : PolyH S B L w' A n c hs qs := ⟨H.1.below hb, H.2.1, H.2.2.1.imp fun _ _ e => e.below hb, H.2.2.2⟩
theorem AptH.sep {i j : Nat} {h g : Hr} (H : AptH hs) (hi : hs[i]? = some h) (hj : hs[j]? = some g) : (i ≠ j → ∀ o ∈ hnums h, ∀ o' ∈ hnums g, SepA o o') ∧ SepA h.2.1.1 h.2.2.1 := by
  unfold AptH at H
  rw [List.pairwise_flatMap] at H
  obtain ⟨h1, h2⟩ := H
  obtain ⟨hi1, hi2⟩ := List.getElem?_eq_some_iff.1 hi
  obtain ⟨hj1, hj2⟩ := List.getElem?_eq_some_iff.1 hj
  refine ⟨fun hne o ho o' ho' => ?_, ?_⟩
  · rw [List.pairwise_iff_getElem] at h2
    rcases Nat.lt_or_gt_of_ne hne with h3 | h3
    · have := h2 i j hi1 hj1 h3
      rw [hi2, hj2] at this
      exact this o ho o' ho'
    · have := h2 j i hj1 hi1 h3
      rw [hi2, hj2] at this
      exact (this o' ho' o ho).symm
  · have := h1 h (List.mem_of_getElem? hi)
    simp [hnums] at this
    exact this
theorem Own.sepKept {t : TypeId} {B : Nat} {A A2 : Option Addr} {n c n2 c2 : Nat} {xs : List Nat} (ho : Own .u64 t B w A n c xs) (hg : w.grownBy w' (Value.slice A2 n2 c2).ownBlock) (hs : SepA A A2) : Own .u64 t B w' A n c xs := by
  refine World.ownsRow.kept ho hg ?_
  rcases A with _ | a
  · exact .inl rfl
  · right
    rcases A2 with _ | b
    · simp [Value.ownBlock]
    · simp only [Value.ownBlock]
      intro e
      injection e with e
      exact hs a b rfl rfl e
/-- a numerator is grown -/
theorem PolyH.num {i : Nat} {h : Hr} {q : Cn} (H : PolyH S B L w A n c hs qs) (hi : hs[i]? = some h) (hq : qs[i]? = some q) (ho : Own .u64 41 B w' h.2.1.1 h.2.1.2.1 h.2.1.2.2 (dg W q.1.natAbs)) (hg : w.grownBy w' (shv h.2.1).ownBlock) : PolyH S B L w' A n c hs qs ∧ Ex S w w' := by
  obtain ⟨h1, h2, h3, h4, h5⟩ := H
  have hc := h3.2 i h q hi hq
  refine ⟨⟨h1.other (v := shv h.2.1) hc.2.1.1 (by decide) hg, h2, ⟨h3.1, fun j g p e1 e2 => ?_⟩, h4, h5⟩, Ex.grown hg (fun k e => ?_)⟩
  · have hp := h3.2 j g p e1 e2
    obtain ⟨s1, s2⟩ := h4.sep e1 hi
    by_cases hji : j = i
    · subst hji
      rw [hi] at e1
      injection e1 with e1
      subst e1
      rw [hq] at e2
      injection e2 with e2
      subst e2
      exact ⟨hp.1, ⟨ho, hp.2.1.2⟩, hp.2.2.1.sepKept hg s2.symm, hp.2.2.2⟩
    · have s3 := s1 hji
      exact ⟨hp.1, ⟨hp.2.1.1.sepKept hg (s3 _ (by simp [hnums]) _ (by simp [hnums])), hp.2.1.2⟩, hp.2.2.1.sepKept hg (s3 _ (by simp [hnums]) _ (by simp [hnums])), hp.2.2.2⟩
  · obtain ⟨s, ⟨A1, n1, c1⟩, s2⟩ := h
    rcases A1 with _ | a
    · simp [shv, Value.ownBlock] at e
    · simp only [shv, Value.ownBlock, Option.some.injEq] at e
      subst e
      exact h5.2 _ (List.mem_of_getElem? hi) _ (by simp [hnums]) a rfl
/-- a denominator is grown -/
theorem PolyH.den {i : Nat} {h : Hr} {q : Cn} (H : PolyH S B L w A n c hs qs) (hi : hs[i]? = some h) (hq : qs[i]? = some q) (ho : Own .u64 41 B w' h.2.2.1 h.2.2.2.1 h.2.2.2.2 (dg W q.2)) (hg : w.grownBy w' (shv h.2.2).ownBlock) : PolyH S B L w' A n c hs qs ∧ Ex S w w' := by
  obtain ⟨h1, h2, h3, h4, h5⟩ := H
  have hc := h3.2 i h q hi hq
  refine ⟨⟨h1.other (v := shv h.2.2) hc.2.2.1 (by decide) hg, h2, ⟨h3.1, fun j g p e1 e2 => ?_⟩, h4, h5⟩, Ex.grown hg (fun k e => ?_)⟩
  · have hp := h3.2 j g p e1 e2
    obtain ⟨s1, s2⟩ := h4.sep e1 hi
    by_cases hji : j = i
    · subst hji
      rw [hi] at e1
      injection e1 with e1
      subst e1
      rw [hq] at e2
      injection e2 with e2
      subst e2
      exact ⟨hp.1, ⟨hp.2.1.1.sepKept hg s2, hp.2.1.2⟩, ho, hp.2.2.2⟩
    · have s3 := s1 hji
      exact ⟨hp.1, ⟨hp.2.1.1.sepKept hg (s3 _ (by simp [hnums]) _ (by simp [hnums])), hp.2.1.2⟩, hp.2.2.1.sepKept hg (s3 _ (by simp [hnums]) _ (by simp [hnums])), hp.2.2.2⟩
  · obtain ⟨s, s2, ⟨A1, n1, c1⟩⟩ := h
    rcases A1 with _ | a
    · simp [shv, Value.ownBlock] at e
    · simp only [shv, Value.ownBlock, Option.some.injEq] at e
      subst e
      exact h5.2 _ (List.mem_of_getElem? hi) _ (by simp [hnums]) a rfl
/-- the row is grown -/
theorem PolyH.row (H : PolyH S B L w A n c hs qs) (ho : RowK 3 62 B w' A n c (hs.flatMap hrv)) (hg : w.grownBy w' (Value.slice A n c).ownBlock) : PolyH S B L w' A n c hs qs ∧ Ex S w w' := by
  obtain ⟨h1, h2, h3, h4, h5⟩ := H
  refine ⟨⟨ho, h2, h3.imp fun _ _ e => e.grown h1 (by decide) hg, h4, h5⟩, Ex.grown hg (fun k e => ?_)⟩
  rcases A with _ | a
  · simp [Value.ownBlock] at e
  · simp only [Value.ownBlock, Option.some.injEq] at e
    subst e
    exact h5.1 a rfl
end
theorem elNatG : ElemK Tryz.prog 23 41 (.int .u64 0) 1 8 := ⟨⟨Tryz.underlying23, by kernel_rfl⟩, rfl, by omega, by omega⟩
/-- a list of bindings with its headers in sight -/
def ListH (B L : Nat) (w : World) (A : Option Addr) (n c : Nat) (hs : List Hb) (zs : List Zq) : Prop := RowK 2 57 B w A n c (hs.flatMap hbv) ∧ All2 (OwnZ B L w) hs zs
theorem ListH.step {B L n c i n1 c1 : Nat} {w w' : World} {A A1 : Option Addr} {hs : List Hb} {zs : List Zq} {t : ByteArray} {z : Zq} {hr : List Hr} (H : ListH B L w A n c hs zs) (hd : DjZ zs) (hi : hs[i]? = some (t, (A1, n1, c1))) (hz : zs[i]? = some z) (hrow : RowK 2 57 B w' A n c (hs.flatMap hbv)) (hp : PolyH z.2 B L w' A1 n1 c1 hr z.1.2) (hx : Ex z.2 w w') : ListH B L w' A n c hs zs := by
  refine ⟨hrow, H.2.1, fun j g y e1 e2 => ?_⟩
  have hj := H.2.2 j g y e1 e2
  by_cases hji : j = i
  · subst hji
    rw [hi] at e1
    injection e1 with e1
    subst e1
    rw [hz] at e2
    injection e2 with e2
    subst e2
    exact ⟨hj.1, hp.s, hj.2.2⟩
  · refine ⟨hj.1, hj.2.1.exd hx (fun b h1 h2 => ?_), hj.2.2⟩
    unfold DjZ at hd
    rw [List.pairwise_iff_getElem] at hd
    obtain ⟨q1, q2⟩ := List.getElem?_eq_some_iff.1 e2
    obtain ⟨q3, q4⟩ := List.getElem?_eq_some_iff.1 hz
    rcases Nat.lt_or_gt_of_ne hji with h3 | h3
    · have := hd j i q1 q3 h3 b
      rw [q2, q4] at this
      exact this h1 h2
    · have := hd i j q3 q1 h3 b
      rw [q2, q4] at this
      exact this h2 h1
set_option maxHeartbeats 8000000 in
theorem grow_any {T : Nat → Prop} {B L n c : Nat} {A : Option Addr} {qs : List Bq} {w : World} (h : ListZ T B L w A n c qs) (hL : L ≤ 268435456) (hn : n ≤ 1073741824) (hB : B ≤ w.heap.size) :
    Calls Tryz.prog 30 #[.slice A n c] w (fun e w' => e = .returned (.tuple #[]) ∧ ListZ T B L w' A n c qs ∧ Ex T w w') := by
  obtain ⟨hs, zs, h1, h2, h3, h4, h5, h6⟩ := h
  have H0 : Hid (ListH B L w A n c hs zs) := ⟨h1, h2⟩
  have HM := Lib.hid h3
  have HDJ := Lib.hid h4
  have HT := Lib.hid h5
  have HA := Lib.hid h6
  have HEN := Lib.hid elNatG
  have HER := Lib.hid elRat
  have HEB := Lib.hid elBind
  have hl := h1.len
  rw [flat2_len hbv hbv_len] at hl
  have HLN : Hid (hs.length = n ∧ zs.length = n) := ⟨by omega, by have := h2.1; omega⟩
  clear h1 h2 h3 h4 h5 h6 hl
  go_enter Tryz.func30, Tryz.ntmps30
  go_wp2
  go_loopw [6] (fun kv wr => ∃ i : Nat, Hid (ListH B L wr A n c hs zs ∧ Ex T w wr) ∧ i ≤ n ∧ kv = .int .i64 (i : Int)) (fun kv _ => n - (intOf kv).toNat)
  case atStart => exact ⟨0, ⟨H0.out, Ex.refl _ _⟩, Nat.zero_le _, rfl⟩
  case round =>
    obtain ⟨i, hI, hi, rfl⟩ := hrel
    obtain ⟨wq, rfl⟩ : ∃ wq : World, wq = wr := ⟨_, rfl⟩
    have HBW : Hid (B ≤ wq.heap.size) := Nat.le_trans hB hI.out.2.size
    by_cases hlt : i < n
    · obtain ⟨hd, ehd⟩ : ∃ hd, hs[i]? = some hd := ⟨_, List.getElem?_eq_getElem (by rw [HLN.out.1]; exact hlt)⟩
      obtain ⟨z, ez⟩ : ∃ z, zs[i]? = some z := ⟨_, List.getElem?_eq_getElem (by rw [HLN.out.2]; exact hlt)⟩
      obtain ⟨t, ⟨A1, n1, c1⟩⟩ := hd
      have hz := hI.out.1.2.2 i _ z ehd ez
      have hn1 : n1 ≤ 1073741824 := hz.2.2.2
      obtain ⟨hr, hP⟩ := hz.2.1.h
      obtain ⟨g, rfl, _, _⟩ := hI.out.1.1.form (by omega)
      have HE := Lib.hid ehd
      have HZ := Lib.hid ez
      have HP := Lib.hid hP
      have HRL : Hid (hr.length = n1 ∧ z.1.2.length = n1) := ⟨by rw [hP.2.2.1.1]; exact hP.2.1.symm, hP.2.1.symm⟩
      have HX : Hid (∀ w', RowK 2 57 B w' (some ⟨g, 0, none⟩) n c (hs.flatMap hbv) → w'.cell? ⟨g, i * 2 + 1, none⟩ = some (.slice A1 n1 c1)) := fun w' h' => (h'.at2s ehd).2.1
      clear ehd ez hz hP
      have i1 : (0 : Int) ≤ (i : Int) := by omega
      have i2 : (i : Int) < (n : Int) := by omega
      have x0 := HX.out _ hI.out.1.1
      go_wp2_with fail
      clear x0
      go_loopw [15] (fun kv wr => ∃ j : Nat, Hid (PolyH z.2 B L wr A1 n1 c1 hr z.1.2 ∧ RowK 2 57 B wr (some ⟨g, 0, none⟩) n c (hs.flatMap hbv) ∧ Ex z.2 wq wr) ∧ j ≤ n1 ∧ kv = .int .i64 (j : Int)) (fun kv _ => n1 - (intOf kv).toNat)
      case atStart => exact ⟨0, ⟨HP.out, hI.out.1.1, Ex.refl _ _⟩, Nat.zero_le _, rfl⟩
      case round =>
        obtain ⟨j, hJ, hj, rfl⟩ := hrel
        have HBR : Hid (B ≤ wr.heap.size) := Nat.le_trans HBW.out hJ.out.2.2.size
        by_cases hlt2 : j < n1
        · obtain ⟨hd, ehd⟩ : ∃ hd, hr[j]? = some hd := ⟨_, List.getElem?_eq_getElem (by rw [HRL.out.1]; exact hlt2)⟩
          obtain ⟨q, eq⟩ : ∃ q, z.1.2[j]? = some q := ⟨_, List.getElem?_eq_getElem (by rw [HRL.out.2]; exact hlt2)⟩
          obtain ⟨s, ⟨A2, n2, c2⟩, ⟨A3, n3, c3⟩⟩ := hd
          have hc := hJ.out.1.2.2.1.2 j _ q ehd eq
          have ln2 : n2 ≤ 268435456 := Nat.le_trans hc.2.1.2 hL
          have ln3 : n3 ≤ 268435456 := Nat.le_trans hc.2.2.2 hL
          obtain ⟨g1, rfl, _, _⟩ := hJ.out.1.1.form (by omega)
          have HD := Lib.hid ehd
          have HQ := Lib.hid eq
          have HO2 : Hid (Own .u64 41 B wr A2 n2 c2 (dg W q.1.natAbs)) := hc.2.1.1
          clear ehd eq hc
          have j1 : (0 : Int) ≤ (j : Int) := by omega
          have j2 : (j : Int) < (n1 : Int) := by omega
          have x0 := HX.out _ hJ.out.2.1
          have x1 := (hJ.out.1.1.at3 HD.out).2.1.1
          simp only [shv] at x1
          go_wp2_with (first
            | (at_builtin; (refine wpList_keepK rfl (.tmp 27) (.tmp 28) rfl HEN.out (B := B) (us := [.int .u64 79]) rfl rfl (RowK.below (k := 1) HO2.out (belowA _ _)) (RowK.lit (k := 1) (T := 41) (B := 0) wr 1 [.int .u64 79] rfl rfl (by omega) (Nat.zero_le _)).rd (by simp [Value.oneCell']) (by omega) (by omega) (Nat.le_trans HBR (belowA _ _).size) ?_); intro v1 w1 ho1 hg1; have HJ1 : Hid (PolyH z.2 B L w1 (some ⟨g1, 0, none⟩) n1 c1 hr z.1.2 ∧ RowK 2 57 B w1 (some ⟨g, 0, none⟩) n c (hs.flatMap hbv) ∧ Ex z.2 wq w1) := (by have p1 := (hJ.out.1.below (belowA wr (.cells #[.int .u64 79] 41))).num HD.out HQ.out ho1 hg1; exact ⟨p1.1, (hJ.out.2.1.below (belowA _ _)).other (RowK.below (k := 1) HO2.out (belowA _ _)) (by decide) hg1, (hJ.out.2.2.trans (Ex.of_below (belowA _ _))).trans p1.2⟩); have HBR1 : B ≤ w1.heap.size := Nat.le_trans HBW.out HJ1.out.2.2.size; have HO3 : Hid (Own .u64 41 B w1 A3 n3 c3 (dg W q.2)) := (HJ1.out.1.2.2.1.2 j _ q HD.out HQ.out).2.2.1; have y0 := HX.out _ HJ1.out.2.1; have y1 := (HJ1.out.1.1.at3 HD.out).2.2.1; simp only [shv] at y1; clear ho1 hg1 hJ x0 x1)
            | (at_builtin; (refine wpList_keepK rfl (.tmp 38) (.tmp 39) rfl HEN.out (B := B) (us := [.int .u64 80]) rfl rfl (RowK.below (k := 1) HO3.out (belowA _ _)) (RowK.lit (k := 1) (T := 41) (B := 0) w1 1 [.int .u64 80] rfl rfl (by omega) (Nat.zero_le _)).rd (by simp [Value.oneCell']) (by omega) (by omega) (Nat.le_trans HBR1 (belowA _ _).size) ?_); intro v2 w2 ho2 hg2; have HJ2 : Hid (PolyH z.2 B L w2 (some ⟨g1, 0, none⟩) n1 c1 hr z.1.2 ∧ RowK 2 57 B w2 (some ⟨g, 0, none⟩) n c (hs.flatMap hbv) ∧ Ex z.2 wq w2) := (by have p1 := (HJ1.out.1.below (belowA w1 (.cells #[.int .u64 80] 41))).den HD.out HQ.out ho2 hg2; exact ⟨p1.1, (HJ1.out.2.1.below (belowA _ _)).other (RowK.below (k := 1) HO3.out (belowA _ _)) (by decide) hg2, (HJ1.out.2.2.trans (Ex.of_below (belowA _ _))).trans p1.2⟩); clear ho2 hg2 HJ1 y0 y1))
          go_roundw
          case rel => exact ⟨j + 1, HJ2, by omega, by go_num⟩
          case measure => simp [intOf]; omega
        · obtain rfl : n1 = j := by omega
          obtain ⟨we, rfl⟩ : ∃ we : World, we = wr := ⟨_, rfl⟩
          have x0 := HX.out _ hJ.out.2.1
          go_wp2_with (at_builtin; (refine wpList_keepK rfl (.tmp 46) (.tmp 49) rfl HER.out (B := B) (us := [.bool false, .slice none 0 0, .slice none 0 0, .bool false, .slice none 0 0, .slice none 0 0]) rfl rfl (hJ.out.1.1.below (belowA _ _)) (RowK.lit (k := 3) (T := 62) (B := 0) we 2 [.bool false, .slice none 0 0, .slice none 0 0, .bool false, .slice none 0 0, .slice none 0 0] rfl rfl (by omega) (Nat.zero_le _)).rd (by simp [Value.oneCell']) (by omega) (by omega) (Nat.le_trans HBR (belowA _ _).size) ?_); intro v1 w1 ho1 hg1; have HJ1 : Hid (ListH B L w1 (some ⟨g, 0, none⟩) n c hs zs ∧ Ex T w w1) := (by have p1 := (hJ.out.1.below (belowA we (.cells #[.bool false, .slice none 0 0, .slice none 0 0, .bool false, .slice none 0 0, .slice none 0 0] 62))).row ho1 hg1; have p2 := (hJ.out.2.2.trans (Ex.of_below (belowA _ _))).trans p1.2; exact ⟨hI.out.1.step HDJ.out HE.out HZ.out ((hJ.out.2.1.below (belowA _ _)).other (hJ.out.1.1.below (belowA _ _)) (by decide) hg1) p1.1 p2, hI.out.2.trans (p2.mono (HT.out z (List.mem_of_getElem? HZ.out)))⟩); clear ho1 hg1 hJ x0)
          go_roundw
          case rel => exact ⟨i + 1, HJ1, by omega, by go_num⟩
          case measure => simp [intOf]; omega
    · obtain rfl : n = i := by omega
      go_wp2_with (at_builtin; (refine wpList_keepK rfl (.tmp 52) (.tmp 55) rfl HEB.out (B := B) (us := [.string (ByteArray.mk #[109, 97, 114, 107]), .slice none 0 0, .string (ByteArray.mk #[109, 97, 114, 107]), .slice none 0 0]) rfl rfl (hI.out.1.1.below (belowA _ _)) (RowK.lit (k := 2) (T := 57) (B := 0) wq 2 [.string (ByteArray.mk #[109, 97, 114, 107]), .slice none 0 0, .string (ByteArray.mk #[109, 97, 114, 107]), .slice none 0 0] rfl rfl (by omega) (Nat.zero_le _)).rd (by simp [Value.oneCell']) (by omega) (by omega) (Nat.le_trans HBW.out (belowA _ _).size) ?_); intro v1 w1 ho1 hg1; have HJ1 : Hid (ListH B L w1 A n c hs zs ∧ Ex T w w1) := (by
        have p1 : ListH B L w1 A n c hs zs := ⟨ho1, hI.out.1.2.imp fun _ _ e => (e.below (belowA _ _)).grown (hI.out.1.1.below (belowA _ _)) hg1⟩
        refine ⟨p1, (hI.out.2.trans (Ex.of_below (belowA _ _))).trans (Ex.grown hg1 (fun k e => ?_))⟩
        rcases A with _ | a
        · simp [Value.ownBlock] at e
        · simp only [Value.ownBlock, Option.some.injEq] at e
          subst e
          exact HA.out a rfl); clear ho1 hg1 hI)
      go_end0
      exact ⟨rfl, ⟨hs, zs, HJ1.out.1.1, HJ1.out.1.2, HM.out, HDJ.out, HT.out, HA.out⟩, HJ1.out.2⟩
end Go.Proofs.YtamfhmmcnlollaaGreat
namespace Go.Proofs.YtamfhmmcnlollaaGreat
open Go.RowKit
set_option linter.unusedVariables false
set_option linter.unusedSimpArgs false

/-- a coefficient, limb by limb -/
abbrev Lf := Bool × List Nat × List Nat
def cfx (r : Lf) : Cf := (r.1, val W r.2.1, val W r.2.2)
def RdX (L : Nat) (w : World) (h : Hr) (r : Lf) : Prop := h.1 = r.1 ∧ (Rd .u64 w h.2.1.1 h.2.1.2.1 h.2.1.2.2 r.2.1 ∧ All W r.2.1 ∧ h.2.1.2.1 ≤ L) ∧ Rd .u64 w h.2.2.1 h.2.2.2.1 h.2.2.2.2 r.2.2 ∧ All W r.2.2 ∧ h.2.2.2.1 ≤ L
def OwX (B L : Nat) (w : World) (h : Hr) (r : Lf) : Prop := h.1 = r.1 ∧ (Own .u64 41 B w h.2.1.1 h.2.1.2.1 h.2.1.2.2 r.2.1 ∧ All W r.2.1 ∧ h.2.1.2.1 ≤ L) ∧ Own .u64 41 B w h.2.2.1 h.2.2.2.1 h.2.2.2.2 r.2.2 ∧ All W r.2.2 ∧ h.2.2.2.1 ≤ L
def PolyX (L : Nat) (w : World) (v : Value) (rs : List Lf) : Prop := ∃ A n c hs, v = .slice A n c ∧ RdK 3 w A n c (hs.flatMap hrv) ∧ n = rs.length ∧ All2 (RdX L w) hs rs
def PolyXO (B L : Nat) (w : World) (v : Value) (rs : List Lf) : Prop := ∃ A n c hs, v = .slice A n c ∧ RowK 3 62 B w A n c (hs.flatMap hrv) ∧ n = rs.length ∧ All2 (OwX B L w) hs rs
section
variable {B B' L : Nat} {w w' : World} {h : Hr} {r : Lf} {v : Value} {rs : List Lf}
theorem RdX.below (H : RdX L w h r) (hb : Below w.heap.size w w') : RdX L w' h r := ⟨H.1, ⟨H.2.1.1.below hb, H.2.1.2⟩, H.2.2.1.below hb, H.2.2.2⟩
theorem RdX.raw (H : RdX L w h r) : RawR L w h (cfx r) := ⟨H.1, ⟨_, _, _, _, rfl, H.2.1.1, H.2.1.2.1, rfl, H.2.1.2.2⟩, ⟨_, _, _, _, rfl, H.2.2.1, H.2.2.2.1, rfl, H.2.2.2.2⟩⟩
theorem OwX.rd (H : OwX B L w h r) : RdX L w h r := ⟨H.1, ⟨H.2.1.1.rd, H.2.1.2⟩, H.2.2.1.rd, H.2.2.2⟩
theorem OwX.below (H : OwX B L w h r) (hb : Below w.heap.size w w') : OwX B L w' h r := ⟨H.1, ⟨H.2.1.1.below hb, H.2.1.2⟩, H.2.2.1.below hb, H.2.2.2⟩
theorem OwX.mono (H : OwX B L w h r) (hB : B' ≤ B) : OwX B' L w h r := ⟨H.1, ⟨H.2.1.1.mono hB, H.2.1.2⟩, H.2.2.1.mono hB, H.2.2.2⟩
theorem OwX.grown {T : TypeId} {s m : Nat} {vs : List Value} {u : Value} (H : OwX B L w h r) (hr : w.ownsRow B T s u m vs) (hne : 41 ≠ T) (hg : w.grownBy w' u.ownBlock) : OwX B L w' h r := ⟨H.1, ⟨H.2.1.1.other hr hne hg, H.2.1.2⟩, H.2.2.1.other hr hne hg, H.2.2.2⟩
theorem PolyX.below (H : PolyX L w v rs) (hb : Below w.heap.size w w') : PolyX L w' v rs := by
  obtain ⟨A, n, c, hs, rfl, h1, h2, h3⟩ := H
  exact ⟨A, n, c, hs, rfl, h1.below hb, h2, h3.imp fun _ _ e => e.below hb⟩
theorem All2.mapr {α β γ : Type} {P : α → β → Prop} {Q : α → γ → Prop} {hs : List α} {rs : List β} (f : β → γ) (H : All2 P hs rs) (hf : ∀ h r, P h r → Q h (f r)) : All2 Q hs (rs.map f) := by
  refine ⟨by rw [List.length_map]; exact H.1, fun i h r e1 e2 => ?_⟩
  rw [List.getElem?_map] at e2
  obtain ⟨q, e3, rfl⟩ := Option.map_eq_some_iff.1 e2
  exact hf _ _ (H.2 i h q e1 e3)
theorem PolyX.i (H : PolyX L w v rs) : PolyI L w v (rs.map cfx) := by
  obtain ⟨A, n, c, hs, rfl, h1, h2, h3⟩ := H
  exact ⟨A, n, c, hs, rfl, h1, by rw [List.length_map]; exact h2, h3.mapr cfx fun _ _ e => e.raw⟩
theorem PolyXO.rd (H : PolyXO B L w v rs) : PolyX L w v rs := by
  obtain ⟨A, n, c, hs, rfl, h1, h2, h3⟩ := H
  exact ⟨A, n, c, hs, rfl, h1.rd, h2, h3.imp fun _ _ e => e.rd⟩
theorem PolyXO.below (H : PolyXO B L w v rs) (hb : Below w.heap.size w w') : PolyXO B L w' v rs := by
  obtain ⟨A, n, c, hs, rfl, h1, h2, h3⟩ := H
  exact ⟨A, n, c, hs, rfl, h1.below hb, h2, h3.imp fun _ _ e => e.below hb⟩
theorem PolyXO.mono (H : PolyXO B L w v rs) (hB : B' ≤ B) : PolyXO B' L w v rs := by
  obtain ⟨A, n, c, hs, rfl, h1, h2, h3⟩ := H
  exact ⟨A, n, c, hs, rfl, h1.mono hB, h2, h3.imp fun _ _ e => e.mono hB⟩
theorem PolyXO.grown {T : TypeId} {s m : Nat} {vs : List Value} {u : Value} (H : PolyXO B L w v rs) (hr : w.ownsRow B T s u m vs) (hne : 41 ≠ T) (hne2 : 62 ≠ T) (hg : w.grownBy w' u.ownBlock) : PolyXO B L w' v rs := by
  obtain ⟨A, n, c, hs, rfl, h1, h2, h3⟩ := H
  exact ⟨A, n, c, hs, rfl, h1.other hr hne2 hg, h2, h3.imp fun _ _ e => e.grown hr hne hg⟩
theorem PolyX.len {A : Option Addr} {n c : Nat} (h : PolyX L w (.slice A n c) rs) : n = rs.length := by
  obtain ⟨_, _, _, hs, e, h1, h2, _⟩ := h
  injection e with e1 e2 e3
  subst e1 e2 e3
  exact h2
/-- to each list of values there are the limbs -/
theorem All2.pick {α β γ : Type} {P : α → β → Prop} {Q : α → γ → Prop} (f : γ → β) {hs : List α} {rs : List β} (H : All2 P hs rs) (hf : ∀ h r, P h r → ∃ x, Q h x ∧ f x = r) : ∃ ls, All2 Q hs ls ∧ ls.map f = rs := by
  obtain ⟨hl, hp⟩ := H
  induction hs generalizing rs with
  | nil =>
    rcases rs with _ | ⟨r, rs⟩
    · exact ⟨[], All2.nil, rfl⟩
    · simp at hl
  | cons h hs ih =>
    rcases rs with _ | ⟨r, rs⟩
    · simp at hl
    · obtain ⟨ls, ⟨h1, h2⟩, h3⟩ := ih (rs := rs) (by simpa using hl) (fun i a b e1 e2 => hp (i + 1) a b (by simpa using e1) (by simpa using e2))
      obtain ⟨x, hx, hfx⟩ := hf h r (hp 0 h r rfl rfl)
      refine ⟨x :: ls, ⟨by simp [h1], fun i a b e1 e2 => ?_⟩, by simp [hfx, h3]⟩
      rcases i with _ | i
      · simp at e1 e2
        subst e1 e2
        exact hx
      · exact h2 i a b (by simpa using e1) (by simpa using e2)
theorem PolyI.x {rs : List Cf} (H : PolyI L w v rs) : ∃ ls, PolyX L w v ls ∧ ls.map cfx = rs := by
  obtain ⟨A, n, c, hs, rfl, h1, h2, h3⟩ := H
  obtain ⟨ls, h4, h5⟩ := h3.pick (Q := RdX L w) cfx (fun h r hr => by
    obtain ⟨e0, ⟨A1, n1, c1, xs, e1, r1, a1, v1, l1⟩, ⟨A2, n2, c2, ys, e2, r2, a2, v2, l2⟩⟩ := hr
    simp only [shv, Value.slice.injEq] at e1 e2
    obtain ⟨q1, q2, q3⟩ := e1
    obtain ⟨q4, q5, q6⟩ := e2
    refine ⟨(r.1, xs, ys), ⟨e0, ⟨by rw [q1, q2, q3]; exact r1, a1, by rw [q2]; exact l1⟩, by rw [q4, q5, q6]; exact r2, a2, by rw [q5]; exact l2⟩, by simp [cfx, v1, v2]⟩)
  exact ⟨ls, ⟨A, n, c, hs, rfl, h1, by rw [h2, ← h5, List.length_map], h4⟩, h5⟩
theorem PolyX.at {i : Nat} {A : Option Addr} {n c : Nat} (h : PolyX L w (.slice A n c) rs) (hi : i < rs.length) : ∃ b off s A1 n1 c1 A2 n2 c2 r, A = some ⟨b, off, none⟩ ∧ b < w.heap.size ∧ rs[i]? = some r ∧ Hid (s = r.1) ∧
    w.cell? ⟨b, off + i * 3, none⟩ = some (.bool s) ∧ w.cell? ⟨b, off + i * 3 + 1, none⟩ = some (.slice A1 n1 c1) ∧ w.cell? ⟨b, off + i * 3 + 2, none⟩ = some (.slice A2 n2 c2) ∧ (Rd .u64 w A1 n1 c1 r.2.1 ∧ All W r.2.1 ∧ n1 ≤ L) ∧ Rd .u64 w A2 n2 c2 r.2.2 ∧ All W r.2.2 ∧ n2 ≤ L := by
  obtain ⟨A', n', c', hs, e, h1, h2, h3⟩ := h
  injection e with e1 e2 e3
  subst e1 e2 e3
  obtain ⟨b, off, e, hb, hc⟩ := h1.2 (by omega)
  obtain ⟨hd, r, e1, e2, h4, h5, h6⟩ := h3.at hi
  have hf := fun j hj => flat3 hrv hrv_len hs i j hd e1 hj
  refine ⟨b, off, hd.1, hd.2.1.1, hd.2.1.2.1, hd.2.1.2.2, hd.2.2.1, hd.2.2.2.1, hd.2.2.2.2, r, e, hb, e2, h4, ?_, ?_, ?_, h5, h6⟩
  · have := hf 0 (by omega); rw [Nat.add_zero] at this; rw [hc _ (by omega), this]; rfl
  · rw [Nat.add_assoc, hc _ (by omega), hf 1 (by omega)]; rfl
  · rw [Nat.add_assoc, hc _ (by omega), hf 2 (by omega)]; rfl
/-- what it needs to be written over -/
theorem PolyXO.sh {A : Option Addr} {n c : Nat} (H : PolyXO B L w (.slice A n c) rs) : ShP (fun b => B ≤ b ∧ b < w.heap.size) w (A, n, c) := by
  obtain ⟨_, _, _, hs, e, h1, h2, h3⟩ := H
  injection e with e1 e2 e3
  subst e1 e2 e3
  refine ⟨hs, h1.mono (Nat.zero_le _), fun a e => h1.lies a e, fun h hh => ?_⟩
  obtain ⟨r, hr⟩ := h3.left hh
  exact ⟨⟨⟨_, hr.2.1.1.mono (Nat.zero_le _)⟩, fun a e => hr.2.1.1.lies a e⟩, ⟨⟨_, hr.2.2.1.mono (Nat.zero_le _)⟩, fun a e => hr.2.2.1.lies a e⟩⟩
end
theorem copyNatX_any {A : Option Addr} {n c : Nat} {xs : List Nat} {w : World} (h : Rd .u64 w A n c xs) (hL : n ≤ 1099511627776) : Calls Tryz.prog 67 #[.slice A n c] w (fun e w' => ∃ A' c', e = .returned (.slice A' n c') ∧ Own .u64 41 w.heap.size w' A' n c' xs ∧ Below w.heap.size w w') := by
  have H := Lib.hid h
  have HE := Lib.hid elN
  clear h
  go_enter Tryz.func67, Tryz.ntmps67
  go_wp2_with (at_builtin; (refine wpList_app rfl (.tmp 3) (.tmp 4) rfl HE.out (t := 41) (k := .u64) (B := w.heap.size) (xs := []) (ys := xs) rfl rfl (Own.lit0 _ (Nat.le_refl _)) (H.out.alloc _) (by omega) (by simp) ?_); intro A_c c_c wc ho_c hb_c _ _; have K_c : Hid (Own .u64 41 w.heap.size wc A_c n c_c xs ∧ Below w.heap.size w wc) := ⟨(by simpa using ho_c), (belowA _ _).trans hb_c⟩; clear ho_c hb_c)
  go_ret
  exact ⟨_, _, by simp, K_c.out.1, K_c.out.2⟩
def CX (w : World) (L : Nat) (rs : List Lf) (i : Nat) (A' : Option Addr) (c' : Nat) (wr : World) : Prop :=
  (∃ hs : List Hr, RowK 3 62 w.heap.size wr A' i c' (hs.flatMap hrv) ∧ All2 (OwX w.heap.size L wr) hs (rs.take i)) ∧ Below w.heap.size w wr
theorem CX.below {w wr w' : World} {L i c' : Nat} {rs : List Lf} {A' : Option Addr} (h : CX w L rs i A' c' wr) (hb : Below wr.heap.size wr w') : CX w L rs i A' c' w' := by
  obtain ⟨⟨hs, h1, h2⟩, h4⟩ := h
  exact ⟨⟨hs, h1.below hb, h2.imp fun _ _ e => e.below hb⟩, bt h4 hb⟩
theorem CX.grown {w w' : World} {L i c2 : Nat} {rs : List Lf} {A2 : Option Addr} {hs : List Hr} {h : Hr} {r : Lf} (ho : RowK 3 62 w.heap.size w' A2 (i + 1) c2 (hs.flatMap hrv ++ hrv h)) (h2 : All2 (OwX w.heap.size L w') hs (rs.take i)) (hc : OwX w.heap.size L w' h r) (hr : rs[i]? = some r) (hb : Below w.heap.size w w') : CX w L rs (i + 1) A2 c2 w' := by
  refine ⟨⟨hs ++ [h], by simpa using ho, ?_⟩, hb⟩
  rw [take_snoc hr]
  exact h2.snoc hc
set_option maxHeartbeats 4000000 in
theorem copyPolyX_any {A : Option Addr} {n c L : Nat} {rs : List Lf} {w : World} (h : PolyX L w (.slice A n c) rs) (hL : L ≤ 268435456) (hn : n ≤ 1073741824) :
    Calls Tryz.prog 24 #[.slice A n c] w (fun e w' => ∃ v, e = .returned v ∧ PolyXO w.heap.size L w' v rs ∧ Below w.heap.size w w') := by
  have H := Lib.hid h
  have HNQ : Hid (n = rs.length) := h.len
  clear h
  have HEL := Lib.hid elRat
  go_enter Tryz.func24, Tryz.ntmps24
  go_wp2
  go_loopw [3, 9] (fun ov kv wr => ∃ (i : Nat) (A' : Option Addr) (c' : Nat), Hid (CX w L rs i A' c' wr) ∧ i ≤ n ∧ ov = .slice A' i c' ∧ kv = .int .i64 (i : Int)) (fun _ kv _ => n - (intOf kv).toNat)
  case atStart => exact ⟨0, _, _, ⟨⟨[], by have := RowK.lit (k := 3) (T := 62) (B := w.heap.size) w 0 [] rfl rfl (by omega) (Nat.le_refl _); simpa using this, by simpa using All2.nil⟩, belowA _ _⟩, Nat.zero_le _, rfl, rfl⟩
  case round =>
    obtain ⟨i, A', c', hI, hi, rfl, rfl⟩ := hrel
    by_cases hlt : i < n
    · obtain ⟨b, off, s, A1, n1, c1, A2, n2, c2, r, e, hb, eq, hsr, h0, h1, h2, h3, h4⟩ := (H.out.below hI.out.2).at (i := i) (by have := HNQ.out; omega)
      have HQ := Lib.hid eq
      have HCN := Lib.hid (And.intro h3 h4)
      clear eq h3 h4
      subst e
      obtain rfl := hsr.out
      clear hsr
      have i1 : (0 : Int) ≤ (i : Int) := by omega
      have i2 : (i : Int) < (n : Int) := by omega
      have HW0 : Hid (w.heap.size ≤ wr.heap.size) := hI.out.2.size
      have hrow : Hid (some wr.heap.size ≠ (Value.slice A' i c').ownBlock) := fun e => by
        obtain ⟨⟨hs, k1, _⟩, _⟩ := hI.out
        have := World.ownsRow.lt k1 _ e.symm
        omega
      have e0 : (World.alloc wr (.cells #[.bool r.1, .slice A1 n1 c1, .slice A2 n2 c2] 62)).cell? ⟨wr.heap.size, 0, none⟩ = some (.bool r.1) := (At.box (i := 0) _ _ rfl).1
      have e1 : (World.alloc wr (.cells #[.bool r.1, .slice A1 n1 c1, .slice A2 n2 c2] 62)).cell? ⟨wr.heap.size, 1, none⟩ = some (.slice A1 n1 c1) := (At.box (i := 1) _ _ rfl).1
      have e2 : (World.alloc wr (.cells #[.bool r.1, .slice A1 n1 c1, .slice A2 n2 c2] 62)).cell? ⟨wr.heap.size, 2, none⟩ = some (.slice A2 n2 c2) := (At.box (i := 2) _ _ rfl).1
      have k0 := cell_gr e0 hrow.out
      have k1 := cell_gr e1 hrow.out
      have k2 := cell_gr e2 hrow.out
      go_wp2_with fail
      clear h0 h1 h2
      refine wp_region_fltR (Grow (Value.slice A' i c').ownBlock) (Grow.refl _) (Grow.trans _) (fun _ _ h => h.any) [(0, 0), (0, 1), (0, 2), (0, 3), (0, 4), (0, 5), (0, 6), (0, 9), (0, 10), (3, 7), (0, 8), (3, 11), (0, 12), (3, 13), (3, 14), (0, 15)] (by kernel_rfl) (by kernel_rfl) ?_
      repeat (refine flt_pas (by rfl) (fun K hK => ?_); go_simp; refine hK _ _ (fun w' hw' => (by first | (go_simp; done) | (go_simp; intro hh; cases hh))) ?_; clear hK K)
      (refine flt_callX (by rfl) (fun K hK => ?_); go_simp; refine hK _ _ ?_; clear hK K)
      refine (copyNatX_any (HCN.out.1.1.below (belowA _ _).drew) (by have := HCN.out.1.2.2; omega)).mono ?_
      rintro e w1 ⟨B1, d1, rfl, o1, hb1⟩
      refine ⟨_, rfl, Grow.of_below hb1, ?_⟩
      (refine flt_norm (fun K hK => ?_); go_simp; refine hK _ ?_; clear hK K)
      repeat (refine flt_pas (by rfl) (fun K hK => ?_); go_simp; refine hK _ _ (fun w' hw' => (by first | (go_simp; done) | (go_simp; intro hh; cases hh))) ?_; clear hK K)
      (refine flt_callX (by rfl) (fun K hK => ?_); go_simp; refine hK _ _ ?_; clear hK K)
      refine (copyNatX_any ((HCN.out.2.1.below (belowA _ _).drew).below hb1) (by have := HCN.out.2.2.2; omega)).mono ?_
      rintro e w2 ⟨B2, d2, rfl, o2, hb2⟩
      refine ⟨_, rfl, Grow.of_below hb2, ?_⟩
      (refine flt_norm (fun K hK => ?_); go_simp; refine hK _ ?_; clear hK K)
      repeat (refine flt_pas (by rfl) (fun K hK => ?_); go_simp; refine hK _ _ (fun w' hw' => (by first | (go_simp; done) | (go_simp; intro hh; cases hh))) ?_; clear hK K)
      clear k0 k1 k2 e0 e1 e2
      have HB : Hid (Below w.heap.size w w2) := bt (bt (bt hI.out.2 (belowA _ _).drew) hb1) hb2
      have HS : Hid (w.heap.size ≤ w1.heap.size ∧ w.heap.size ≤ (World.drew (World.alloc wr (.cells #[.bool r.1, .slice A1 n1 c1, .slice A2 n2 c2] 62))).heap.size) := by
        have h1 := hb1.size
        have h2 := HW0.out
        have h3 : wr.heap.size + 1 = (World.drew (World.alloc wr (.cells #[.bool r.1, .slice A1 n1 c1, .slice A2 n2 c2] 62))).heap.size := by simp
        exact ⟨by omega, by omega⟩
      have HCR : Hid (OwX w.heap.size L w2 (r.1, (B1, n1, d1), (B2, n2, d2)) r) := ⟨rfl, ⟨(o1.mono HS.out.2).below hb2, HCN.out.1.2⟩, o2.mono HS.out.1, HCN.out.2.2⟩
      obtain ⟨⟨hs', p1, p2⟩, p3⟩ := ((hI.out.below (belowA _ _).drew).below hb1).below hb2
      have HK := Lib.hid p1
      have HK2 := Lib.hid p2
      have HZ : Hid (w.heap.size ≤ w2.heap.size) := HB.out.size
      clear p1 p2 p3 o1 o2 hb1 hb2
      (refine flt_actX (by rfl) (fun K hK => ?_); go_simp)
      refine hK _ _ ⟨Grow.of_below (belowA _ _), ?_⟩
      clear hK K
      (refine flt_norm (fun K hK => ?_); go_simp; refine hK _ ?_; clear hK K)
      refine flt_appK (.tmp 13) (.tmp 26) (by rfl) rfl rfl HEL.out (B := w.heap.size) (us := [.bool r.1, .slice B1 n1 d1, .slice B2 n2 d2]) rfl rfl (HK.out.below (belowA _ _)) (RowK.lit (k := 3) (T := 62) (B := 0) w2 1 [.bool r.1, .slice B1 n1 d1, .slice B2 n2 d2] (by simp) rfl (by omega) (Nat.zero_le _)).rd (by simp [Value.oneCell']) (by omega) (by omega) (by have := HZ.out; simp; omega) (fun w' _ h => h) (fun A4 c4 w4 ho hb4 hg4 => ?_)
      have HN : Hid (CX w L rs (i + 1) A4 c4 w4) := CX.grown (hs := hs') (h := (r.1, (B1, n1, d1), (B2, n2, d2))) ho (HK2.out.imp fun _ _ e => (e.below (belowA _ _)).grown (HK.out.below (belowA _ _)) (by decide) hg4) ((HCR.out.below (belowA _ _)).grown (HK.out.below (belowA _ _)) (by decide) hg4) HQ.out ((HB.out.alloc HB.out.size _).trans hb4)
      clear ho hb4 hg4
      (refine flt_norm (fun K hK => ?_); go_simp; refine hK _ ?_; clear hK K)
      repeat (refine flt_pas (by rfl) (fun K hK => ?_); go_simp; refine hK _ _ (fun w' hw' => (by first | (go_simp; done) | (go_simp; intro hh; cases hh))) ?_; clear hK K)
      refine flt_nil ?_
      go_wp2
      go_roundw
      case rel => exact ⟨i + 1, A4, c4, HN, by omega, rfl, by go_num⟩
      case measure => simp [intOf]; omega
    · obtain rfl : i = n := by omega
      obtain ⟨⟨hs, k1, k2⟩, k3⟩ := hI.out
      rw [List.take_of_length_le (by have := HNQ.out; omega)] at k2
      have HR : Hid (PolyXO w.heap.size L wr (.slice A' i c') rs ∧ Below w.heap.size w wr) := ⟨⟨A', i, c', hs, rfl, k1, HNQ.out, k2⟩, k3⟩
      clear k1 k2 k3 hI
      go_wp2
      go_ret
      exact ⟨_, rfl, HR.out.1, HR.out.2⟩
/-- a binding, limb by limb -/
abbrev Bx := ByteArray × List Lf
def bnx (b : Bx) : Bn := (b.1, b.2.map cfx)
def RdBX (L : Nat) (w : World) (h : Hb) (r : Bx) : Prop := h.1 = r.1 ∧ PolyX L w (shv h.2) r.2 ∧ r.1.size ≤ maxLen ∧ h.2.2.1 ≤ 1073741824
def OwBX (B L : Nat) (w : World) (h : Hb) (r : Bx) : Prop := h.1 = r.1 ∧ PolyXO B L w (shv h.2) r.2 ∧ r.1.size ≤ maxLen ∧ h.2.2.1 ≤ 1073741824
def ListX (L : Nat) (w : World) (v : Value) (bs : List Bx) : Prop := ∃ A n c hs, v = .slice A n c ∧ RdK 2 w A n c (hs.flatMap hbv) ∧ n = bs.length ∧ All2 (RdBX L w) hs bs
def ListXO (B L : Nat) (w : World) (v : Value) (bs : List Bx) : Prop := ∃ A n c hs, v = .slice A n c ∧ RowK 2 57 B w A n c (hs.flatMap hbv) ∧ n = bs.length ∧ All2 (OwBX B L w) hs bs
section
variable {B L : Nat} {w w' : World} {h : Hb} {r : Bx} {v : Value} {bs : List Bx}
theorem RdBX.below (H : RdBX L w h r) (hb : Below w.heap.size w w') : RdBX L w' h r := ⟨H.1, H.2.1.below hb, H.2.2⟩
theorem OwBX.below (H : OwBX B L w h r) (hb : Below w.heap.size w w') : OwBX B L w' h r := ⟨H.1, H.2.1.below hb, H.2.2⟩
theorem OwBX.grown {vs : List Value} {A2 : Option Addr} {n2 c2 : Nat} (H : OwBX B L w h r) (hr : RowK 2 57 B w A2 n2 c2 vs) (hg : w.grownBy w' (Value.slice A2 n2 c2).ownBlock) : OwBX B L w' h r := ⟨H.1, H.2.1.grown hr (by decide) (by decide) hg, H.2.2⟩
theorem ListX.below (H : ListX L w v bs) (hb : Below w.heap.size w w') : ListX L w' v bs := by
  obtain ⟨A, n, c, hs, rfl, h1, h2, h3⟩ := H
  exact ⟨A, n, c, hs, rfl, h1.below hb, h2, h3.imp fun _ _ e => e.below hb⟩
theorem ListX.len {A : Option Addr} {n c : Nat} (H : ListX L w (.slice A n c) bs) : n = bs.length ∧ n ≤ c := by
  obtain ⟨_, _, _, hs, e, h1, h2, _⟩ := H
  injection e with e1 e2 e3
  subst e1 e2 e3
  exact ⟨h2, h1.1.2⟩
theorem ListX.at {i : Nat} {A : Option Addr} {n c : Nat} (H : ListX L w (.slice A n c) bs) (hi : i < bs.length) : ∃ b off A1 n1 c1 r, A = some ⟨b, off, none⟩ ∧ b < w.heap.size ∧ bs[i]? = some r ∧
    At w ⟨b, off + i * 2, none⟩ (.string r.1) ∧ At w ⟨b, off + i * 2 + 1, none⟩ (.slice A1 n1 c1) ∧ PolyX L w (.slice A1 n1 c1) r.2 ∧ r.1.size ≤ maxLen ∧ n1 ≤ 1073741824 := by
  obtain ⟨A', n', c', hs, e, h1, h2, h3⟩ := H
  injection e with e1 e2 e3
  subst e1 e2 e3
  obtain ⟨b, off, e, hb, hc⟩ := h1.2 (by omega)
  obtain ⟨hd, r, e1, e2, h4, h5, h6, h7⟩ := h3.at hi
  have hf := fun j hj => flat2 hbv hbv_len hs i j hd e1 hj
  refine ⟨b, off, hd.2.1, hd.2.2.1, hd.2.2.2, r, e, hb, e2, ⟨?_, hb⟩, ⟨?_, hb⟩, h5, h6, h7⟩
  · have := hf 0 (by omega); rw [Nat.add_zero] at this; rw [hc _ (by omega), this, ← h4]; rfl
  · rw [Nat.add_assoc, hc _ (by omega), hf 1 (by omega)]; rfl
theorem ListX.i (H : ListX L w v bs) : ListI L w v (bs.map bnx) := by
  obtain ⟨A, n, c, hs, rfl, h1, h2, h3⟩ := H
  exact ⟨A, n, c, hs, rfl, h1, by rw [List.length_map]; exact h2, h3.mapr bnx fun _ _ e => ⟨e.1, e.2.1.i, e.2.2⟩⟩
theorem ListI.x {rs : List Bn} (H : ListI L w v rs) : ∃ bs, ListX L w v bs ∧ bs.map bnx = rs := by
  obtain ⟨A, n, c, hs, rfl, h1, h2, h3⟩ := H
  obtain ⟨ls, h4, h5⟩ := h3.pick (Q := RdBX L w) bnx (fun h r hr => by
    obtain ⟨ls, e1, e2⟩ := hr.2.1.x
    exact ⟨(r.1, ls), ⟨hr.1, e1, hr.2.2⟩, by simp [bnx, e2]⟩)
  exact ⟨ls, ⟨A, n, c, hs, rfl, h1, by rw [h2, ← h5, List.length_map], h4⟩, h5⟩
theorem ListXO.rd (H : ListXO B L w v bs) : ListX L w v bs := by
  obtain ⟨A, n, c, hs, rfl, h1, h2, h3⟩ := H
  exact ⟨A, n, c, hs, rfl, h1.rd, h2, h3.imp fun _ _ e => ⟨e.1, e.2.1.rd, e.2.2⟩⟩
theorem ListXO.below (H : ListXO B L w v bs) (hb : Below w.heap.size w w') : ListXO B L w' v bs := by
  obtain ⟨A, n, c, hs, rfl, h1, h2, h3⟩ := H
  exact ⟨A, n, c, hs, rfl, h1.below hb, h2, h3.imp fun _ _ e => e.below hb⟩
theorem ListXO.sh {A : Option Addr} {n c : Nat} (H : ListXO B L w (.slice A n c) bs) : ShL (fun b => B ≤ b ∧ b < w.heap.size) w (A, n, c) := by
  obtain ⟨_, _, _, hs, e, h1, h2, h3⟩ := H
  injection e with e1 e2 e3
  subst e1 e2 e3
  refine ⟨hs, h1.mono (Nat.zero_le _), fun a e => h1.lies a e, fun h hh => ?_⟩
  obtain ⟨r, hr⟩ := h3.left hh
  exact ⟨hr.2.1.sh, hr.2.2.2⟩
end
def LX (w : World) (L : Nat) (bs : List Bx) (i : Nat) (A' : Option Addr) (c' : Nat) (wr : World) : Prop :=
  (∃ hs : List Hb, RowK 2 57 w.heap.size wr A' i c' (hs.flatMap hbv) ∧ All2 (OwBX w.heap.size L wr) hs (bs.take i)) ∧ Below w.heap.size w wr
theorem LX.below {w wr w' : World} {L i c' : Nat} {bs : List Bx} {A' : Option Addr} (h : LX w L bs i A' c' wr) (hb : Below wr.heap.size wr w') : LX w L bs i A' c' w' := by
  obtain ⟨⟨hs, h1, h2⟩, h4⟩ := h
  exact ⟨⟨hs, h1.below hb, h2.imp fun _ _ e => e.below hb⟩, bt h4 hb⟩
theorem LX.grown {w w' : World} {L i c2 : Nat} {bs : List Bx} {A2 : Option Addr} {hs : List Hb} {h : Hb} {r : Bx} (ho : RowK 2 57 w.heap.size w' A2 (i + 1) c2 (hs.flatMap hbv ++ hbv h)) (h2 : All2 (OwBX w.heap.size L w') hs (bs.take i)) (hc : OwBX w.heap.size L w' h r) (hr : bs[i]? = some r) (hb : Below w.heap.size w w') : LX w L bs (i + 1) A2 c2 w' := by
  refine ⟨⟨hs ++ [h], by simpa using ho, ?_⟩, hb⟩
  rw [take_snoc hr]
  exact h2.snoc hc
set_option maxHeartbeats 4000000 in
theorem copyListX_any {A : Option Addr} {n c L : Nat} {bs : List Bx} {w : World} (h : ListX L w (.slice A n c) bs) (hL : L ≤ 268435456) (hn : n ≤ 1073741824) :
    Calls Tryz.prog 17 #[.slice A n c] w (fun e w' => ∃ A' c', e = .returned (.slice A' n c') ∧ ListXO w.heap.size L w' (.slice A' n c') bs ∧ Below w.heap.size w w') := by
  have H := Lib.hid h
  have HNQ : Hid (n = bs.length) := h.len.1
  clear h
  have HEL := Lib.hid elBind
  go_enter Tryz.func17, Tryz.ntmps17
  go_wp2
  go_loopw [3, 9] (fun ov kv wr => ∃ (i : Nat) (A' : Option Addr) (c' : Nat), Hid (LX w L bs i A' c' wr) ∧ i ≤ n ∧ ov = .slice A' i c' ∧ kv = .int .i64 (i : Int)) (fun _ kv _ => n - (intOf kv).toNat)
  case atStart => exact ⟨0, _, _, ⟨⟨[], by have := RowK.lit (k := 2) (T := 57) (B := w.heap.size) w 0 [] rfl rfl (by omega) (Nat.le_refl _); simpa using this, by simpa using All2.nil⟩, belowA _ _⟩, Nat.zero_le _, rfl, rfl⟩
  case round =>
    obtain ⟨i, A', c', hI, hi, rfl, rfl⟩ := hrel
    by_cases hlt : i < n
    · obtain ⟨b, off, A1, n1, c1, r, e, hb, eq, h0, h1, h3, h4, h5⟩ := (H.out.below hI.out.2).at (i := i) (by have := HNQ.out; omega)
      have HQ := Lib.hid eq
      have HP := Lib.hid h3
      have HS := Lib.hid h4
      clear eq h3 h4
      subst e
      have i1 : (0 : Int) ≤ (i : Int) := by omega
      have i2 : (i : Int) < (n : Int) := by omega
      have x0 := h0.1
      have x1 := h1.1
      have HW0 : Hid (w.heap.size ≤ wr.heap.size) := hI.out.2.size
      have hrow : Hid (some wr.heap.size ≠ (Value.slice A' i c').ownBlock) := fun e => by
        obtain ⟨⟨hs, k1, _⟩, _⟩ := hI.out
        have := World.ownsRow.lt k1 _ e.symm
        omega
      have e0 : (World.alloc wr (.cells #[.string r.1, .slice A1 n1 c1] 57)).cell? ⟨wr.heap.size, 0, none⟩ = some (.string r.1) := (At.box (i := 0) _ _ rfl).1
      have e1 : (World.alloc wr (.cells #[.string r.1, .slice A1 n1 c1] 57)).cell? ⟨wr.heap.size, 1, none⟩ = some (.slice A1 n1 c1) := (At.box (i := 1) _ _ rfl).1
      have k0 := cell_gr e0 hrow.out
      have k1 := cell_gr e1 hrow.out
      go_wp2_with fail
      clear h0 h1 x0 x1
      refine wp_region_fltR (Grow (Value.slice A' i c').ownBlock) (Grow.refl _) (Grow.trans _) (fun _ _ h => h.any) [(0, 0), (0, 1), (0, 2), (0, 3), (0, 4), (3, 5), (0, 6), (3, 7), (3, 8), (0, 9)] (by kernel_rfl) (by kernel_rfl) ?_
      repeat (refine flt_pas (by rfl) (fun K hK => ?_); go_simp; refine hK _ _ (fun w' hw' => (by first | (go_simp; done) | (go_simp; intro hh; cases hh))) ?_; clear hK K)
      (refine flt_callX (by rfl) (fun K hK => ?_); go_simp; refine hK _ _ ?_; clear hK K)
      refine (copyPolyX_any (HP.out.below (belowA _ _).drew) hL (by omega)).mono ?_
      rintro e w1 ⟨v, rfl, hpw, hb1⟩
      obtain ⟨B1, m1, d1, hs0, rfl, q1, q2, q3⟩ := id hpw
      have hm1 : m1 ≤ 1073741824 := by rw [q2]; have := HP.out.len; omega
      clear q1 q2 q3
      refine ⟨_, rfl, Grow.of_below hb1, ?_⟩
      (refine flt_norm (fun K hK => ?_); go_simp; refine hK _ ?_; clear hK K)
      repeat (refine flt_pas (by rfl) (fun K hK => ?_); go_simp; refine hK _ _ (fun w' hw' => (by first | (go_simp; done) | (go_simp; intro hh; cases hh))) ?_; clear hK K)
      clear k0 k1 e0 e1
      have HB : Hid (Below w.heap.size w w1) := bt (bt hI.out.2 (belowA _ _).drew) hb1
      have HS2 : Hid (w.heap.size ≤ (World.drew (World.alloc wr (.cells #[.string r.1, .slice A1 n1 c1] 57))).heap.size) := by
        have h2 := HW0.out
        have h3 : wr.heap.size + 1 = (World.drew (World.alloc wr (.cells #[.string r.1, .slice A1 n1 c1] 57))).heap.size := by simp
        show _ ≤ _
        omega
      have HCR : Hid (OwBX w.heap.size L w1 (r.1, (B1, m1, d1)) r) := ⟨rfl, hpw.mono HS2.out, HS.out, hm1⟩
      obtain ⟨⟨hs', p1, p2⟩, p3⟩ := (hI.out.below (belowA _ _).drew).below hb1
      have HK := Lib.hid p1
      have HK2 := Lib.hid p2
      have HZ : Hid (w.heap.size ≤ w1.heap.size) := HB.out.size
      clear p1 p2 p3 hb1 hpw
      (refine flt_actX (by rfl) (fun K hK => ?_); go_simp)
      refine hK _ _ ⟨Grow.of_below (belowA _ _), ?_⟩
      clear hK K
      (refine flt_norm (fun K hK => ?_); go_simp; refine hK _ ?_; clear hK K)
      refine flt_appK (.tmp 13) (.tmp 20) (by rfl) rfl rfl HEL.out (B := w.heap.size) (us := [.string r.1, .slice B1 m1 d1]) rfl rfl (HK.out.below (belowA _ _)) (RowK.lit (k := 2) (T := 57) (B := 0) w1 1 [.string r.1, .slice B1 m1 d1] (by simp) rfl (by omega) (Nat.zero_le _)).rd (by simp [Value.oneCell']) (by omega) (by omega) (by have := HZ.out; simp; omega) (fun w' _ h => h) (fun A4 c4 w4 ho hb4 hg4 => ?_)
      have HN : Hid (LX w L bs (i + 1) A4 c4 w4) := LX.grown (hs := hs') (h := (r.1, (B1, m1, d1))) ho (HK2.out.imp fun _ _ e => (e.below (belowA _ _)).grown (HK.out.below (belowA _ _)) hg4) ((HCR.out.below (belowA _ _)).grown (HK.out.below (belowA _ _)) hg4) HQ.out ((HB.out.alloc HB.out.size _).trans hb4)
      clear ho hb4 hg4
      (refine flt_norm (fun K hK => ?_); go_simp; refine hK _ ?_; clear hK K)
      repeat (refine flt_pas (by rfl) (fun K hK => ?_); go_simp; refine hK _ _ (fun w' hw' => (by first | (go_simp; done) | (go_simp; intro hh; cases hh))) ?_; clear hK K)
      refine flt_nil ?_
      go_wp2
      go_roundw
      case rel => exact ⟨i + 1, A4, c4, HN, by omega, rfl, by go_num⟩
      case measure => simp [intOf]; omega
    · obtain rfl : i = n := by omega
      obtain ⟨⟨hs, k1, k2⟩, k3⟩ := hI.out
      rw [List.take_of_length_le (by have := HNQ.out; omega)] at k2
      have HR : Hid (ListXO w.heap.size L wr (.slice A' i c') bs ∧ Below w.heap.size w wr) := ⟨⟨A', i, c', hs, rfl, k1, HNQ.out, k2⟩, k3⟩
      clear k1 k2 k3 hI
      go_wp2
      go_ret
      exact ⟨A', c', rfl, HR.out.1, HR.out.2⟩
set_option maxHeartbeats 4000000 in
theorem sameRaw_pos {A1 A2 B1 B2 : Option Addr} {n1 c1 n2 c2 d1 d2 : Nat} {xs ys : List Nat} {w : World} (h1 : Rd .u64 w A1 n1 c1 xs) (h2 : Rd .u64 w A2 n2 c2 ys) (k1 : Rd .u64 w B1 n1 d1 xs) (k2 : Rd .u64 w B2 n2 d2 ys) (l1 : n1 ≤ 1073741824) (l2 : n2 ≤ 1073741824) :
    Calls Tryz.prog 22 #[.agg #[.bool false, .slice A1 n1 c1, .slice A2 n2 c2], .agg #[.bool false, .slice B1 n1 d1, .slice B2 n2 d2]] w (Keeps (.bool true) w) := by
  have H1 := Lib.hid h1
  have H2 := Lib.hid h2
  have K1 := Lib.hid k1
  have K2 := Lib.hid k2
  clear h1 h2 k1 k2
  go_enter Tryz.func22, Tryz.ntmps22
  have B0 : Hid (Below w.heap.size w (World.alloc (World.alloc w (.cells #[.bool false, .slice A1 n1 c1, .slice A2 n2 c2] 62)) (.cells #[.bool false, .slice B1 n1 d1, .slice B2 n2 d2] 62))) := (bt ((Below.refl _ _).alloc (Nat.le_refl _) (.cells #[.bool false, .slice A1 n1 c1, .slice A2 n2 c2] 62)) ((Below.refl _ _).alloc (Nat.le_refl _) (.cells #[.bool false, .slice B1 n1 d1, .slice B2 n2 d2] 62)))
  have F0 := Lib.hid ((At.boxc (i := 0) (v := .bool false) (t := 62) (b := w.heap.size) w #[.bool false, .slice A1 n1 c1, .slice A2 n2 c2] rfl (by simp)).below ((Below.refl _ _).alloc (Nat.le_refl _) (.cells #[.bool false, .slice B1 n1 d1, .slice B2 n2 d2] 62)))
  have F1 := Lib.hid ((At.boxc (i := 1) (v := .slice A1 n1 c1) (t := 62) (b := w.heap.size) w #[.bool false, .slice A1 n1 c1, .slice A2 n2 c2] rfl (by simp)).below ((Below.refl _ _).alloc (Nat.le_refl _) (.cells #[.bool false, .slice B1 n1 d1, .slice B2 n2 d2] 62)))
  have F2 := Lib.hid ((At.boxc (i := 2) (v := .slice A2 n2 c2) (t := 62) (b := w.heap.size) w #[.bool false, .slice A1 n1 c1, .slice A2 n2 c2] rfl (by simp)).below ((Below.refl _ _).alloc (Nat.le_refl _) (.cells #[.bool false, .slice B1 n1 d1, .slice B2 n2 d2] 62)))
  have G0 := Lib.hid (At.boxc (i := 0) (v := .bool false) (t := 62) (b := w.heap.size + 1) (World.alloc w (.cells #[.bool false, .slice A1 n1 c1, .slice A2 n2 c2] 62)) #[.bool false, .slice B1 n1 d1, .slice B2 n2 d2] rfl (by simp))
  have G1 := Lib.hid (At.boxc (i := 1) (v := .slice B1 n1 d1) (t := 62) (b := w.heap.size + 1) (World.alloc w (.cells #[.bool false, .slice A1 n1 c1, .slice A2 n2 c2] 62)) #[.bool false, .slice B1 n1 d1, .slice B2 n2 d2] rfl (by simp))
  have G2 := Lib.hid (At.boxc (i := 2) (v := .slice B2 n2 d2) (t := 62) (b := w.heap.size + 1) (World.alloc w (.cells #[.bool false, .slice A1 n1 c1, .slice A2 n2 c2] 62)) #[.bool false, .slice B1 n1 d1, .slice B2 n2 d2] rfl (by simp))
  have x0 := ((At.boxc (i := 0) (v := .bool false) (t := 62) (b := w.heap.size) w #[.bool false, .slice A1 n1 c1, .slice A2 n2 c2] rfl (by simp)).below ((Below.refl _ _).alloc (Nat.le_refl _) (.cells #[.bool false, .slice B1 n1 d1, .slice B2 n2 d2] 62))).1
  have x1 := ((At.boxc (i := 1) (v := .slice A1 n1 c1) (t := 62) (b := w.heap.size) w #[.bool false, .slice A1 n1 c1, .slice A2 n2 c2] rfl (by simp)).below ((Below.refl _ _).alloc (Nat.le_refl _) (.cells #[.bool false, .slice B1 n1 d1, .slice B2 n2 d2] 62))).1
  have x2 := ((At.boxc (i := 2) (v := .slice A2 n2 c2) (t := 62) (b := w.heap.size) w #[.bool false, .slice A1 n1 c1, .slice A2 n2 c2] rfl (by simp)).below ((Below.refl _ _).alloc (Nat.le_refl _) (.cells #[.bool false, .slice B1 n1 d1, .slice B2 n2 d2] 62))).1
  have y0 := (At.boxc (i := 0) (v := .bool false) (t := 62) (b := w.heap.size + 1) (World.alloc w (.cells #[.bool false, .slice A1 n1 c1, .slice A2 n2 c2] 62)) #[.bool false, .slice B1 n1 d1, .slice B2 n2 d2] rfl (by simp)).1
  have y1 := (At.boxc (i := 1) (v := .slice B1 n1 d1) (t := 62) (b := w.heap.size + 1) (World.alloc w (.cells #[.bool false, .slice A1 n1 c1, .slice A2 n2 c2] 62)) #[.bool false, .slice B1 n1 d1, .slice B2 n2 d2] rfl (by simp)).1
  have y2 := (At.boxc (i := 2) (v := .slice B2 n2 d2) (t := 62) (b := w.heap.size + 1) (World.alloc w (.cells #[.bool false, .slice A1 n1 c1, .slice A2 n2 c2] 62)) #[.bool false, .slice B1 n1 d1, .slice B2 n2 d2] rfl (by simp)).1
  go_wp2_with fail
  clear x0 x1 x2 y0 y1 y2
  go_loopw [38] (fun iv wr => ∃ j : Nat, Hid (Below (World.alloc (World.alloc w (.cells #[.bool false, .slice A1 n1 c1, .slice A2 n2 c2] 62)) (.cells #[.bool false, .slice B1 n1 d1, .slice B2 n2 d2] 62)).heap.size (World.alloc (World.alloc w (.cells #[.bool false, .slice A1 n1 c1, .slice A2 n2 c2] 62)) (.cells #[.bool false, .slice B1 n1 d1, .slice B2 n2 d2] 62)) wr) ∧ j ≤ n1 ∧ iv = .int .i64 (j : Int)) (fun iv _ => n1 - (intOf iv).toNat)
  case atStart => exact ⟨0, Below.refl _ _, Nat.zero_le _, rfl⟩
  case round =>
    obtain ⟨j, hI, hj, rfl⟩ := hrel
    obtain ⟨wq, rfl⟩ : ∃ wq : World, wq = wr := ⟨_, rfl⟩
    by_cases hlt : j < n1
    · obtain ⟨b, off, rfl, hb, hc⟩ := H1.out.2 (by omega)
      obtain ⟨b2, off2, rfl, hb2, hc2⟩ := K1.out.2 (by omega)
      have C1 : At w ⟨b, off + j, none⟩ (.int .u64 ((nth xs j : Nat) : Int)) := ⟨hc j hlt, hb⟩
      have C2 : At w ⟨b2, off2 + j, none⟩ (.int .u64 ((nth xs j : Nat) : Int)) := ⟨hc2 j hlt, hb2⟩
      clear hc hc2
      generalize nth xs j = d at C1 C2
      have i1 : (0 : Int) ≤ (j : Int) := by omega
      have i2 : (j : Int) < (n1 : Int) := by omega
      have hw : Hid (Below w.heap.size w wq) := bt B0.out hI.out
      go_wp2_with fail
      have e_f1 := (F1.out.below hI.out).1
      have g_f1 := At.grow (F1.out.below hI.out)
      have e_g1 := (G1.out.below hI.out).1
      have g_g1 := At.grow (G1.out.below hI.out)
      have e_p := (C1.below hw.out).1
      have g_p := At.grow (C1.below hw.out)
      have e_q := (C2.below hw.out).1
      have g_q := At.grow (C2.below hw.out)
      refine wp_region_grow none [(true, 0), (true, 1), (true, 2), (true, 3), (true, 4), (true, 5), (true, 6), (true, 7), (true, 8), (true, 9), (true, 10), (true, 11), (true, 12)] (by kernel_rfl) (by kernel_rfl) ?_
      repeat (refine ord_pas (by rfl) (fun K hK => ?_); go_simp; refine hK _ _ (fun w' hw' => (by first | (go_simp; done) | (go_simp; intro hh; cases hh))) ?_; clear hK K)
      repeat (refine ord_pas (by rfl) (fun K hK => ?_); go_simp; refine hK _ _ (fun w' hw' => (by first | (go_simp; done) | (go_simp; intro hh; cases hh))) ?_; clear hK K)
      refine ord_nil ?_
      clear g_f1 e_f1 g_g1 e_g1 g_p e_p g_q e_q
      have HN := Lib.hid (bt hI.out (below_drewN _ 1))
      clear hI
      go_wp2
      go_roundw
      case rel => exact ⟨j + 1, HN, by omega, by go_num⟩
      case measure => simp [intOf]; omega
    · obtain rfl : n1 = j := by omega
      have z2 := (F2.out.below hI.out).1
      go_wp2_with fail
      clear z2
      go_loopw [58] (fun iv wr => ∃ j : Nat, Hid (Below (World.alloc (World.alloc w (.cells #[.bool false, .slice A1 n1 c1, .slice A2 n2 c2] 62)) (.cells #[.bool false, .slice B1 n1 d1, .slice B2 n2 d2] 62)).heap.size (World.alloc (World.alloc w (.cells #[.bool false, .slice A1 n1 c1, .slice A2 n2 c2] 62)) (.cells #[.bool false, .slice B1 n1 d1, .slice B2 n2 d2] 62)) wr) ∧ j ≤ n2 ∧ iv = .int .i64 (j : Int)) (fun iv _ => n2 - (intOf iv).toNat)
      case atStart => exact ⟨0, hI, Nat.zero_le _, rfl⟩
      case round =>
        clear hI
        obtain ⟨j, hI, hj, rfl⟩ := hrel
        by_cases hlt : j < n2
        · obtain ⟨b, off, rfl, hb, hc⟩ := H2.out.2 (by omega)
          obtain ⟨b2, off2, rfl, hb2, hc2⟩ := K2.out.2 (by omega)
          have C1 : At w ⟨b, off + j, none⟩ (.int .u64 ((nth ys j : Nat) : Int)) := ⟨hc j hlt, hb⟩
          have C2 : At w ⟨b2, off2 + j, none⟩ (.int .u64 ((nth ys j : Nat) : Int)) := ⟨hc2 j hlt, hb2⟩
          clear hc hc2
          generalize nth ys j = d at C1 C2
          have i1 : (0 : Int) ≤ (j : Int) := by omega
          have i2 : (j : Int) < (n2 : Int) := by omega
          have hw : Hid (Below w.heap.size w wr) := bt B0.out hI.out
          go_wp2_with fail
          have e_f1 := (F2.out.below hI.out).1
          have g_f1 := At.grow (F2.out.below hI.out)
          have e_g1 := (G2.out.below hI.out).1
          have g_g1 := At.grow (G2.out.below hI.out)
          have e_p := (C1.below hw.out).1
          have g_p := At.grow (C1.below hw.out)
          have e_q := (C2.below hw.out).1
          have g_q := At.grow (C2.below hw.out)
          refine wp_region_grow none [(true, 0), (true, 1), (true, 2), (true, 3), (true, 4), (true, 5), (true, 6), (true, 7), (true, 8), (true, 9), (true, 10)] (by kernel_rfl) (by kernel_rfl) ?_
          repeat (refine ord_pas (by rfl) (fun K hK => ?_); go_simp; refine hK _ _ (fun w' hw' => (by first | (go_simp; done) | (go_simp; intro hh; cases hh))) ?_; clear hK K)
          repeat (refine ord_pas (by rfl) (fun K hK => ?_); go_simp; refine hK _ _ (fun w' hw' => (by first | (go_simp; done) | (go_simp; intro hh; cases hh))) ?_; clear hK K)
          refine ord_nil ?_
          clear g_f1 e_f1 g_g1 e_g1 g_p e_p g_q e_q
          have HN := Lib.hid (bt hI.out (below_drewN _ 1))
          clear hI
          go_wp2
          go_roundw
          case rel => exact ⟨j + 1, HN, by omega, by go_num⟩
          case measure => simp [intOf]; omega
        · obtain rfl : n2 = j := by omega
          have HEND := Lib.hid (bt B0.out hI.out)
          go_wp2
          go_ret
          exact ⟨rfl, HEND.out⟩
set_option maxHeartbeats 4000000 in
theorem sameRaw_neg {A1 A2 B1 B2 : Option Addr} {n1 c1 n2 c2 d1 d2 : Nat} {xs ys : List Nat} {w : World} (h1 : Rd .u64 w A1 n1 c1 xs) (h2 : Rd .u64 w A2 n2 c2 ys) (k1 : Rd .u64 w B1 n1 d1 xs) (k2 : Rd .u64 w B2 n2 d2 ys) (l1 : n1 ≤ 1073741824) (l2 : n2 ≤ 1073741824) :
    Calls Tryz.prog 22 #[.agg #[.bool true, .slice A1 n1 c1, .slice A2 n2 c2], .agg #[.bool true, .slice B1 n1 d1, .slice B2 n2 d2]] w (Keeps (.bool true) w) := by
  have H1 := Lib.hid h1
  have H2 := Lib.hid h2
  have K1 := Lib.hid k1
  have K2 := Lib.hid k2
  clear h1 h2 k1 k2
  go_enter Tryz.func22, Tryz.ntmps22
  have B0 : Hid (Below w.heap.size w (World.alloc (World.alloc w (.cells #[.bool true, .slice A1 n1 c1, .slice A2 n2 c2] 62)) (.cells #[.bool true, .slice B1 n1 d1, .slice B2 n2 d2] 62))) := (bt ((Below.refl _ _).alloc (Nat.le_refl _) (.cells #[.bool true, .slice A1 n1 c1, .slice A2 n2 c2] 62)) ((Below.refl _ _).alloc (Nat.le_refl _) (.cells #[.bool true, .slice B1 n1 d1, .slice B2 n2 d2] 62)))
  have F0 := Lib.hid ((At.boxc (i := 0) (v := .bool true) (t := 62) (b := w.heap.size) w #[.bool true, .slice A1 n1 c1, .slice A2 n2 c2] rfl (by simp)).below ((Below.refl _ _).alloc (Nat.le_refl _) (.cells #[.bool true, .slice B1 n1 d1, .slice B2 n2 d2] 62)))
  have F1 := Lib.hid ((At.boxc (i := 1) (v := .slice A1 n1 c1) (t := 62) (b := w.heap.size) w #[.bool true, .slice A1 n1 c1, .slice A2 n2 c2] rfl (by simp)).below ((Below.refl _ _).alloc (Nat.le_refl _) (.cells #[.bool true, .slice B1 n1 d1, .slice B2 n2 d2] 62)))
  have F2 := Lib.hid ((At.boxc (i := 2) (v := .slice A2 n2 c2) (t := 62) (b := w.heap.size) w #[.bool true, .slice A1 n1 c1, .slice A2 n2 c2] rfl (by simp)).below ((Below.refl _ _).alloc (Nat.le_refl _) (.cells #[.bool true, .slice B1 n1 d1, .slice B2 n2 d2] 62)))
  have G0 := Lib.hid (At.boxc (i := 0) (v := .bool true) (t := 62) (b := w.heap.size + 1) (World.alloc w (.cells #[.bool true, .slice A1 n1 c1, .slice A2 n2 c2] 62)) #[.bool true, .slice B1 n1 d1, .slice B2 n2 d2] rfl (by simp))
  have G1 := Lib.hid (At.boxc (i := 1) (v := .slice B1 n1 d1) (t := 62) (b := w.heap.size + 1) (World.alloc w (.cells #[.bool true, .slice A1 n1 c1, .slice A2 n2 c2] 62)) #[.bool true, .slice B1 n1 d1, .slice B2 n2 d2] rfl (by simp))
  have G2 := Lib.hid (At.boxc (i := 2) (v := .slice B2 n2 d2) (t := 62) (b := w.heap.size + 1) (World.alloc w (.cells #[.bool true, .slice A1 n1 c1, .slice A2 n2 c2] 62)) #[.bool true, .slice B1 n1 d1, .slice B2 n2 d2] rfl (by simp))
  have x0 := ((At.boxc (i := 0) (v := .bool true) (t := 62) (b := w.heap.size) w #[.bool true, .slice A1 n1 c1, .slice A2 n2 c2] rfl (by simp)).below ((Below.refl _ _).alloc (Nat.le_refl _) (.cells #[.bool true, .slice B1 n1 d1, .slice B2 n2 d2] 62))).1
  have x1 := ((At.boxc (i := 1) (v := .slice A1 n1 c1) (t := 62) (b := w.heap.size) w #[.bool true, .slice A1 n1 c1, .slice A2 n2 c2] rfl (by simp)).below ((Below.refl _ _).alloc (Nat.le_refl _) (.cells #[.bool true, .slice B1 n1 d1, .slice B2 n2 d2] 62))).1
  have x2 := ((At.boxc (i := 2) (v := .slice A2 n2 c2) (t := 62) (b := w.heap.size) w #[.bool true, .slice A1 n1 c1, .slice A2 n2 c2] rfl (by simp)).below ((Below.refl _ _).alloc (Nat.le_refl _) (.cells #[.bool true, .slice B1 n1 d1, .slice B2 n2 d2] 62))).1
  have y0 := (At.boxc (i := 0) (v := .bool true) (t := 62) (b := w.heap.size + 1) (World.alloc w (.cells #[.bool true, .slice A1 n1 c1, .slice A2 n2 c2] 62)) #[.bool true, .slice B1 n1 d1, .slice B2 n2 d2] rfl (by simp)).1
  have y1 := (At.boxc (i := 1) (v := .slice B1 n1 d1) (t := 62) (b := w.heap.size + 1) (World.alloc w (.cells #[.bool true, .slice A1 n1 c1, .slice A2 n2 c2] 62)) #[.bool true, .slice B1 n1 d1, .slice B2 n2 d2] rfl (by simp)).1
  have y2 := (At.boxc (i := 2) (v := .slice B2 n2 d2) (t := 62) (b := w.heap.size + 1) (World.alloc w (.cells #[.bool true, .slice A1 n1 c1, .slice A2 n2 c2] 62)) #[.bool true, .slice B1 n1 d1, .slice B2 n2 d2] rfl (by simp)).1
  go_wp2_with fail
  clear x0 x1 x2 y0 y1 y2
  go_loopw [38] (fun iv wr => ∃ j : Nat, Hid (Below (World.alloc (World.alloc w (.cells #[.bool true, .slice A1 n1 c1, .slice A2 n2 c2] 62)) (.cells #[.bool true, .slice B1 n1 d1, .slice B2 n2 d2] 62)).heap.size (World.alloc (World.alloc w (.cells #[.bool true, .slice A1 n1 c1, .slice A2 n2 c2] 62)) (.cells #[.bool true, .slice B1 n1 d1, .slice B2 n2 d2] 62)) wr) ∧ j ≤ n1 ∧ iv = .int .i64 (j : Int)) (fun iv _ => n1 - (intOf iv).toNat)
  case atStart => exact ⟨0, Below.refl _ _, Nat.zero_le _, rfl⟩
  case round =>
    obtain ⟨j, hI, hj, rfl⟩ := hrel
    obtain ⟨wq, rfl⟩ : ∃ wq : World, wq = wr := ⟨_, rfl⟩
    by_cases hlt : j < n1
    · obtain ⟨b, off, rfl, hb, hc⟩ := H1.out.2 (by omega)
      obtain ⟨b2, off2, rfl, hb2, hc2⟩ := K1.out.2 (by omega)
      have C1 : At w ⟨b, off + j, none⟩ (.int .u64 ((nth xs j : Nat) : Int)) := ⟨hc j hlt, hb⟩
      have C2 : At w ⟨b2, off2 + j, none⟩ (.int .u64 ((nth xs j : Nat) : Int)) := ⟨hc2 j hlt, hb2⟩
      clear hc hc2
      generalize nth xs j = d at C1 C2
      have i1 : (0 : Int) ≤ (j : Int) := by omega
      have i2 : (j : Int) < (n1 : Int) := by omega
      have hw : Hid (Below w.heap.size w wq) := bt B0.out hI.out
      go_wp2_with fail
      have e_f1 := (F1.out.below hI.out).1
      have g_f1 := At.grow (F1.out.below hI.out)
      have e_g1 := (G1.out.below hI.out).1
      have g_g1 := At.grow (G1.out.below hI.out)
      have e_p := (C1.below hw.out).1
      have g_p := At.grow (C1.below hw.out)
      have e_q := (C2.below hw.out).1
      have g_q := At.grow (C2.below hw.out)
      refine wp_region_grow none [(true, 0), (true, 1), (true, 2), (true, 3), (true, 4), (true, 5), (true, 6), (true, 7), (true, 8), (true, 9), (true, 10), (true, 11), (true, 12)] (by kernel_rfl) (by kernel_rfl) ?_
      repeat (refine ord_pas (by rfl) (fun K hK => ?_); go_simp; refine hK _ _ (fun w' hw' => (by first | (go_simp; done) | (go_simp; intro hh; cases hh))) ?_; clear hK K)
      repeat (refine ord_pas (by rfl) (fun K hK => ?_); go_simp; refine hK _ _ (fun w' hw' => (by first | (go_simp; done) | (go_simp; intro hh; cases hh))) ?_; clear hK K)
      refine ord_nil ?_
      clear g_f1 e_f1 g_g1 e_g1 g_p e_p g_q e_q
      have HN := Lib.hid (bt hI.out (below_drewN _ 1))
      clear hI
      go_wp2
      go_roundw
      case rel => exact ⟨j + 1, HN, by omega, by go_num⟩
      case measure => simp [intOf]; omega
    · obtain rfl : n1 = j := by omega
      have z2 := (F2.out.below hI.out).1
      go_wp2_with fail
      clear z2
      go_loopw [58] (fun iv wr => ∃ j : Nat, Hid (Below (World.alloc (World.alloc w (.cells #[.bool true, .slice A1 n1 c1, .slice A2 n2 c2] 62)) (.cells #[.bool true, .slice B1 n1 d1, .slice B2 n2 d2] 62)).heap.size (World.alloc (World.alloc w (.cells #[.bool true, .slice A1 n1 c1, .slice A2 n2 c2] 62)) (.cells #[.bool true, .slice B1 n1 d1, .slice B2 n2 d2] 62)) wr) ∧ j ≤ n2 ∧ iv = .int .i64 (j : Int)) (fun iv _ => n2 - (intOf iv).toNat)
      case atStart => exact ⟨0, hI, Nat.zero_le _, rfl⟩
      case round =>
        clear hI
        obtain ⟨j, hI, hj, rfl⟩ := hrel
        by_cases hlt : j < n2
        · obtain ⟨b, off, rfl, hb, hc⟩ := H2.out.2 (by omega)
          obtain ⟨b2, off2, rfl, hb2, hc2⟩ := K2.out.2 (by omega)
          have C1 : At w ⟨b, off + j, none⟩ (.int .u64 ((nth ys j : Nat) : Int)) := ⟨hc j hlt, hb⟩
          have C2 : At w ⟨b2, off2 + j, none⟩ (.int .u64 ((nth ys j : Nat) : Int)) := ⟨hc2 j hlt, hb2⟩
          clear hc hc2
          generalize nth ys j = d at C1 C2
          have i1 : (0 : Int) ≤ (j : Int) := by omega
          have i2 : (j : Int) < (n2 : Int) := by omega
          have hw : Hid (Below w.heap.size w wr) := bt B0.out hI.out
          go_wp2_with fail
          have e_f1 := (F2.out.below hI.out).1
          have g_f1 := At.grow (F2.out.below hI.out)
          have e_g1 := (G2.out.below hI.out).1
          have g_g1 := At.grow (G2.out.below hI.out)
          have e_p := (C1.below hw.out).1
          have g_p := At.grow (C1.below hw.out)
          have e_q := (C2.below hw.out).1
          have g_q := At.grow (C2.below hw.out)
          refine wp_region_grow none [(true, 0), (true, 1), (true, 2), (true, 3), (true, 4), (true, 5), (true, 6), (true, 7), (true, 8), (true, 9), (true, 10)] (by kernel_rfl) (by kernel_rfl) ?_
          repeat (refine ord_pas (by rfl) (fun K hK => ?_); go_simp; refine hK _ _ (fun w' hw' => (by first | (go_simp; done) | (go_simp; intro hh; cases hh))) ?_; clear hK K)
          repeat (refine ord_pas (by rfl) (fun K hK => ?_); go_simp; refine hK _ _ (fun w' hw' => (by first | (go_simp; done) | (go_simp; intro hh; cases hh))) ?_; clear hK K)
          refine ord_nil ?_
          clear g_f1 e_f1 g_g1 e_g1 g_p e_p g_q e_q
          have HN := Lib.hid (bt hI.out (below_drewN _ 1))
          clear hI
          go_wp2
          go_roundw
          case rel => exact ⟨j + 1, HN, by omega, by go_num⟩
          case measure => simp [intOf]; omega
        · obtain rfl : n2 = j := by omega
          have HEND := Lib.hid (bt B0.out hI.out)
          go_wp2
          go_ret
          exact ⟨rfl, HEND.out⟩
theorem sameRaw_any {s : Bool} {A1 A2 B1 B2 : Option Addr} {n1 c1 n2 c2 d1 d2 : Nat} {xs ys : List Nat} {w : World} (h1 : Rd .u64 w A1 n1 c1 xs) (h2 : Rd .u64 w A2 n2 c2 ys) (k1 : Rd .u64 w B1 n1 d1 xs) (k2 : Rd .u64 w B2 n2 d2 ys) (l1 : n1 ≤ 1073741824) (l2 : n2 ≤ 1073741824) :
    Calls Tryz.prog 22 #[.agg #[.bool s, .slice A1 n1 c1, .slice A2 n2 c2], .agg #[.bool s, .slice B1 n1 d1, .slice B2 n2 d2]] w (Keeps (.bool true) w) := by
  cases s
  · exact sameRaw_pos h1 h2 k1 k2 l1 l2
  · exact sameRaw_neg h1 h2 k1 k2 l1 l2
end Go.Proofs.YtamfhmmcnlollaaGreat
namespace Go.Proofs.YtamfhmmcnlollaaGreat
open Go.RowKit
set_option linter.unusedVariables false
set_option linter.unusedSimpArgs false

/-- the blocks from lo up to hi -/
def In (lo hi : Nat) : Nat → Prop := fun b => lo ≤ b ∧ b < hi
theorem In.dj {lo hi lo2 hi2 : Nat} (h : hi ≤ lo2 ∨ hi2 ≤ lo) : ∀ b, In lo hi b → ¬ In lo2 hi2 b := fun b h1 h2 => by unfold In at h1 h2; omega
section
variable {S T : Nat → Prop} {B L n c : Nat} {w w' : World} {A : Option Addr} {qs : List Bq} {ps : List Cn}
theorem ListZ.sub {T2 : Nat → Prop} (H : ListZ T B L w A n c qs) (hT : ∀ b, T b → T2 b) : ListZ T2 B L w A n c qs := by
  obtain ⟨hs, zs, h1, h2, h3, h4, h5, h6⟩ := H
  exact ⟨hs, zs, h1, h2, h3, h4, fun z hz b hb => hT b (h5 z hz b hb), fun a e => hT _ (h6 a e)⟩
theorem ListZ.inn (H : ListZ T B L w A n c qs) : ListZ (In B w.heap.size) B L w A n c qs := H.cut.sub fun _ h => h.2
theorem PolyS.inn {v : Value} (H : PolyS S B L w v ps) : PolyS (In B w.heap.size) B L w v ps := H.cut.sub fun _ h => h.2
theorem ListZ.exd (H : ListZ T B L w A n c qs) (hx : Ex S w w') (hd : ∀ b, T b → ¬ S b) : ListZ T B L w' A n c qs := by
  obtain ⟨hs, zs, h1, h2, h3, h4, h5, h6⟩ := H
  refine ⟨hs, zs, h1.exA hx (fun a e => hd _ (h6 a e)), ⟨h2.1, fun i h z e1 e2 => ?_⟩, h3, h4, h5, h6⟩
  have h7 := h2.2 i h z e1 e2
  exact ⟨h7.1, h7.2.1.exd hx (fun b hb => hd b (h5 z (List.mem_of_getElem? e2) b hb)), h7.2.2⟩
theorem PolyS.sh {A : Option Addr} {n c : Nat} (H : PolyS S B L w (.slice A n c) ps) : ShP S w (A, n, c) := by
  obtain ⟨hs, h1, h2, h3, h4, h5⟩ := H.h
  refine ⟨hs, h1.mono (Nat.zero_le _), h5.1, fun h hh => ?_⟩
  obtain ⟨q, hc⟩ := h3.left hh
  exact ⟨⟨⟨_, hc.2.1.1.mono (Nat.zero_le _)⟩, fun a e => h5.2 h hh _ (by simp [hnums]) a e⟩, ⟨⟨_, hc.2.2.1.mono (Nat.zero_le _)⟩, fun a e => h5.2 h hh _ (by simp [hnums]) a e⟩⟩
theorem ShP.sub {s : Sh} (H : ShP S w s) (hT : ∀ b, S b → T b) : ShP T w s := by
  obtain ⟨hs, h1, h2, h3⟩ := H
  exact ⟨hs, h1, fun a e => hT _ (h2 a e), fun h hh => ⟨⟨(h3 h hh).1.1, fun a e => hT _ ((h3 h hh).1.2 a e)⟩, ⟨(h3 h hh).2.1, fun a e => hT _ ((h3 h hh).2.2 a e)⟩⟩⟩
theorem ListZ.sh (H : ListZ T B L w A n c qs) : ShL T w (A, n, c) := by
  obtain ⟨hs, zs, h1, h2, h3, h4, h5, h6⟩ := H
  refine ⟨hs, h1.mono (Nat.zero_le _), h6, fun h hh => ?_⟩
  obtain ⟨i, hi, e⟩ := List.getElem_of_mem hh
  have hiz : i < zs.length := by rw [← h2.1]; exact hi
  have h7 := h2.2 i h _ (by rw [List.getElem?_eq_getElem hi, e]) (List.getElem?_eq_getElem hiz)
  exact ⟨(PolyS.sh h7.2.1).sub (fun b hb => h5 _ (List.getElem_mem hiz) b hb), h7.2.2.2⟩
theorem ShP.exd {s : Sh} (H : ShP T w s) (hx : Ex S w w') (hd : ∀ b, T b → ¬ S b) : ShP T w' s := by
  obtain ⟨hs, h1, h2, h3⟩ := H
  have hn : ∀ s, ShN T w s → ShN T w' s := fun s e => by
    obtain ⟨⟨xs, e1⟩, e2⟩ := e
    exact ⟨⟨xs, e1.ex hx (fun a e => hd _ (e2 a e))⟩, e2⟩
  exact ⟨hs, h1.exA hx (fun a e => hd _ (h2 a e)), h2, fun h hh => ⟨hn _ (h3 h hh).1, hn _ (h3 h hh).2⟩⟩
/-- the document's list, in blocks of its own -/
def ListV (S : Nat → Prop) (B L : Nat) (w : World) (A : Option Addr) (n c : Nat) (qs : List Bq) : Prop := ∃ hs : List Hb, RowK 2 95 B w A n c (hs.flatMap hbv) ∧ (∀ a, A = some a → S a.block) ∧ All2 (fun h q => h.1 = q.1 ∧ PolyS S B L w (shv h.2) q.2 ∧ q.1.size ≤ maxLen ∧ h.2.2.1 ≤ 1073741824) hs qs
theorem ListR.v (H : ListR B L w A n c qs) : ListV (In B w.heap.size) B L w A n c qs := by
  obtain ⟨hs, h1, h2⟩ := H
  exact ⟨hs, h1, fun a e => h1.lies a e, h2.imp fun _ _ e => ⟨e.1, e.2.1.inn, e.2.2⟩⟩
theorem ListV.r (H : ListV S B L w A n c qs) : ListR B L w A n c qs := by
  obtain ⟨hs, h1, h2, h3⟩ := H
  exact ⟨hs, h1, h3.imp fun _ _ e => ⟨e.1, e.2.1.o, e.2.2⟩⟩
theorem ListV.below (H : ListV S B L w A n c qs) (hb : Below w.heap.size w w') : ListV S B L w' A n c qs := by
  obtain ⟨hs, h1, h2, h3⟩ := H
  exact ⟨hs, h1.below hb, h2, h3.imp fun _ _ e => ⟨e.1, e.2.1.below hb, e.2.2⟩⟩
theorem ListV.exd (H : ListV T B L w A n c qs) (hx : Ex S w w') (hd : ∀ b, T b → ¬ S b) : ListV T B L w' A n c qs := by
  obtain ⟨hs, h1, h2, h3⟩ := H
  exact ⟨hs, h1.exA hx (fun a e => hd _ (h2 a e)), h2, h3.imp fun _ _ e => ⟨e.1, e.2.1.exd hx hd, e.2.2⟩⟩
theorem ListR.inp (H : ListR B L w A n c qs) : ListI L w (.slice A n c) (qs.map bqo) := by
  have hl := H.len
  obtain ⟨hs, h1, h3⟩ := H
  exact ⟨A, n, c, hs, rfl, h1.rd, by rw [List.length_map]; exact hl, h3.mapr bqo fun _ _ e => ⟨e.1, e.2.1.c.inp, e.2.2⟩⟩
end
/-- Of's code and list -/
def ofz (bs : List Bn) : Int := if ofc bs = 0 then (if (ofq [] bs).length ≤ 64 then 0 else 12) else ofc bs
def ofl (bs : List Bn) : List Bq := if ofz bs = 0 then ofq [] bs else []
theorem ofz_bad {bs : List Bn} (h : ofc bs ≠ 0) : ofz bs = ofc bs := if_neg h
theorem ofz_many {bs : List Bn} (h : ofc bs = 0 ∧ 64 < (ofq [] bs).length) : ofz bs = 12 := by unfold ofz; rw [if_pos h.1, if_neg (by omega)]
theorem ofz_good {bs : List Bn} (h : ofc bs = 0 ∧ (ofq [] bs).length ≤ 64) : ofz bs = 0 := by unfold ofz; rw [if_pos h.1, if_pos h.2]
theorem ofl_no {bs : List Bn} (h : ofz bs ≠ 0) : ofl bs = [] := if_neg h
theorem ofl_ok {bs : List Bn} (h : ofz bs = 0) : ofl bs = ofq [] bs := if_pos h
theorem ofz_zero {bs : List Bn} (h : ofz bs = 0) : ofc bs = 0 ∧ (ofq [] bs).length ≤ 64 := by
  unfold ofz at h
  by_cases h1 : ofc bs = 0
  · rw [if_pos h1] at h
    by_cases h2 : (ofq [] bs).length ≤ 64
    · exact ⟨h1, h2⟩
    · rw [if_neg h2] at h; omega
  · rw [if_neg h1] at h; exact absurd h h1
theorem eof_u {A : Option Addr} {n c L : Nat} {bs : List Bn} {w : World} (h : ListI L w (.slice A n c) bs) (hL1 : 1 ≤ L) (hL : L ≤ 268435456) (hn : n ≤ 1073741824) :
    Calls Tryz.prog 18 #[.slice A n c] w (fun e w' => Below w.heap.size w w' ∧ ∃ A m c, e = .returned (.tuple #[.slice A m c, .int .i64 (ofz bs)]) ∧ ListO w.heap.size L w' A m c (ofl bs)) := by
  refine (eof_any h hL1 hL hn).mono ?_
  rintro e w' ⟨hb, ⟨hz, rfl⟩ | ⟨hz, rfl⟩ | ⟨hz, A, m, c, rfl, hl⟩⟩
  · have e1 := ofz_bad hz.out
    exact ⟨hb, none, 0, 0, by rw [e1], by rw [ofl_no (by rw [e1]; exact hz.out)]; exact ListO.nil⟩
  · have e1 := ofz_many hz.out
    exact ⟨hb, none, 0, 0, by rw [e1], by rw [ofl_no (by rw [e1]; decide)]; exact ListO.nil⟩
  · have e1 := ofz_good hz.out
    exact ⟨hb, A, m, c, by rw [e1], by rw [ofl_ok e1]; exact hl⟩
theorem rof_u {A : Option Addr} {n c L : Nat} {bs : List Bn} {w : World} (h : ListI L w (.slice A n c) bs) (hL1 : 1 ≤ L) (hL : L ≤ 268435456) (hn : n ≤ 1048576) :
    Calls Tryz.prog 19 #[.slice A n c] w (fun e w' => Below w.heap.size w w' ∧ ∃ A m c, e = .returned (.tuple #[.slice A m c, .int .i64 (ofz bs)]) ∧ ListR w.heap.size L w' A m c (ofl bs)) := by
  refine (rof_any h hL1 hL hn).mono ?_
  rintro e w' ⟨hb, ⟨hz, rfl⟩ | ⟨hz, rfl⟩ | ⟨hz, A, m, c, rfl, hl⟩⟩
  · have e1 := ofz_bad hz.out
    exact ⟨hb, none, 0, 0, by rw [e1], by rw [ofl_no (by rw [e1]; exact hz.out)]; exact ListR.nil⟩
  · have e1 := ofz_many hz.out
    exact ⟨hb, none, 0, 0, by rw [e1], by rw [ofl_no (by rw [e1]; decide)]; exact ListR.nil⟩
  · have e1 := ofz_good hz.out
    exact ⟨hb, A, m, c, by rw [e1], by rw [ofl_ok e1]; exact hl⟩
end Go.Proofs.YtamfhmmcnlollaaGreat
