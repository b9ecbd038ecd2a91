/-
  Lists in form over themselves; EnvLaws, walked. EnvLaws, walked.
-/
import Derived.Test.YtphofjinncbaaaaJoX
namespace Go.Proofs.Ytphofjinncbaaaa
open Go.RowKit
set_option linter.unusedVariables false
set_option linter.unusedSimpArgs false

theorem nrm_cfo {q : Cn} (h : Nat.gcd q.1.natAbs q.2 = 1) : nrm (cfo q) = q := by
  obtain ⟨z, d⟩ := q
  have h' : Nat.gcd z.natAbs d = 1 := h
  unfold nrm cfo
  simp only [h', Nat.div_one]
  refine Prod.ext ?_ rfl
  show sg (decide (z < 0)) z.natAbs = z
  unfold sg
  by_cases hz : z < 0
  · rw [decide_eq_true hz]; simp; omega
  · rw [decide_eq_false hz]; simp; omega
theorem nrm_gcd {r : Cf} (h : 0 < r.2.2) : Nat.gcd (nrm r).1.natAbs (nrm r).2 = 1 := by
  unfold nrm
  have hs : ∀ (s : Bool) (x : Nat), (sg s x).natAbs = x := fun s x => by
    unfold sg
    cases s <;> simp
  show Nat.gcd (sg r.1 (r.2.1 / Nat.gcd r.2.1 r.2.2)).natAbs (r.2.2 / Nat.gcd r.2.1 r.2.2) = 1
  rw [hs]
  exact Nat.gcd_div_gcd_div_gcd_of_pos_right h
theorem tlen_zero {z : Nat → Bool} : ∀ {n : Nat}, (∀ k, n = k + 1 → z k = false) → tlen z n = n
  | 0, _ => rfl
  | n + 1, h => by unfold tlen; rw [h n rfl]; rfl
theorem tlen_last (z : Nat → Bool) : ∀ n k, tlen z n = k + 1 → z k = false
  | 0, k, h => by simp [tlen] at h
  | n + 1, k, h => by
    unfold tlen at h
    split at h
    · exact tlen_last z n k h
    · rename_i hz
      have : n = k := by omega
      subst this
      simpa using hz
theorem ptrim_idem (qs : List Cn) : ptrim (ptrim qs) = ptrim qs := by
  have hle := tlen_le (zat qs) qs.length
  have hl : (ptrim qs).length = tlen (zat qs) qs.length := by unfold ptrim; rw [List.length_take]; omega
  have h : tlen (zat (ptrim qs)) (ptrim qs).length = (ptrim qs).length := by
    refine tlen_zero fun k hk => ?_
    have h1 := tlen_last (zat qs) qs.length k (by rw [← hl]; exact hk)
    unfold zat at h1 ⊢
    have : (ptrim qs)[k]? = qs[k]? := by unfold ptrim; rw [List.getElem?_take, if_pos (by omega)]
    rw [this]; exact h1
  show (ptrim qs).take (tlen (zat (ptrim qs)) (ptrim qs).length) = ptrim qs
  rw [h, List.take_length]
theorem pn_mem {rs : List Cf} {q : Cn} (h : q ∈ pn rs) : ∃ r ∈ rs, q = nrm r := by
  have := List.mem_of_mem_take h
  obtain ⟨r, h1, h2⟩ := List.mem_map.1 this
  exact ⟨r, h1, h2.symm⟩
theorem pn_cfo {rs : List Cf} (hp : ∀ r ∈ rs, 0 < r.2.2) : pn ((pn rs).map cfo) = pn rs := by
  have h : ((pn rs).map cfo).map nrm = pn rs := by
    rw [List.map_map]
    refine (List.map_congr_left fun q hq => ?_).trans (List.map_id _)
    obtain ⟨r, h1, rfl⟩ := pn_mem hq
    exact nrm_cfo (nrm_gcd (hp r h1))
  show ptrim (((pn rs).map cfo).map nrm) = pn rs
  rw [h]
  exact ptrim_idem _
theorem fitc_cfo {rs : List Cf} (h : fitc rs = 0) : fitc ((pn rs).map cfo) = 0 := by
  have hp := fitc_pos h
  have ha : ((pn rs).map cfo).all (fun r => decide (0 < r.2.2)) = true := by
    rw [List.all_eq_true]
    intro r hr
    obtain ⟨q, h1, rfl⟩ := List.mem_map.1 hr
    obtain ⟨r0, h2, rfl⟩ := pn_mem h1
    exact decide_eq_true (nrm_pos (hp r0 h2))
  have ha0 : rs.all (fun r => decide (0 < r.2.2)) = true := by
    rw [List.all_eq_true]
    intro r hr
    exact decide_eq_true (hp r hr)
  unfold fitc at h ⊢
  rw [if_pos ha0] at h
  rw [if_pos ha, pn_cfo hp]
  exact h
/-- in form, with a name -/
def OkQ (q : Bq) : Prop := ∃ b : Bn, rightc b = 0 ∧ q = fq b
theorem OkQ.right {q : Bq} (h : OkQ q) : rightc (bqo q) = 0 := by
  obtain ⟨b, h1, rfl⟩ := h
  obtain ⟨h2, h3⟩ := rightc_zero h1
  unfold rightc
  have e1 : nm (bqo (fq b)).1 = 0 := h2
  rw [if_pos e1]
  exact fitc_cfo h3
theorem OkQ.fq {q : Bq} (h : OkQ q) : fq (bqo q) = q := by
  obtain ⟨b, h1, rfl⟩ := h
  obtain ⟨h2, h3⟩ := rightc_zero h1
  exact Prod.ext rfl (pn_cfo (fitc_pos h3))
theorem insq_all {P : Bq → Prop} : ∀ {qs : List Bq} {b : Bq}, (∀ q ∈ qs, P q) → P b → ∀ q ∈ insq qs b, P q
  | [], b, _, hb, q, h => by simp [insq] at h; subst h; exact hb
  | x :: qs, b, ha, hb, q, h => by
    unfold insq at h
    split at h
    · rcases List.mem_cons.1 h with e | e
      · subst e; exact ha _ (List.mem_cons_self ..)
      · exact insq_all (fun y hy => ha y (List.mem_cons_of_mem _ hy)) hb q e
    · split at h
      · rcases List.mem_cons.1 h with e | e
        · subst e; exact hb
        · exact ha _ (List.mem_cons_of_mem _ e)
      · rcases List.mem_cons.1 h with e | e
        · subst e; exact hb
        · exact ha _ e
theorem ofq_all {P : Bq → Prop} : ∀ (bs : List Bn) (acc : List Bq), (∀ q ∈ acc, P q) → (∀ b ∈ bs, P (fq b)) → ∀ q ∈ ofq acc bs, P q
  | [], acc, ha, _, q, h => ha q h
  | b :: bs, acc, ha, hb, q, h => ofq_all bs (insq acc (b.1, pn b.2)) (insq_all ha (hb b (List.mem_cons_self ..))) (fun x hx => hb x (List.mem_cons_of_mem _ hx)) q h
theorem ofc_zero : ∀ {bs : List Bn}, ofc bs = 0 → ∀ b ∈ bs, rightc b = 0
  | [], _, b, h => by simp at h
  | x :: bs, h, b, hb => by
    unfold ofc at h
    split at h
    · rename_i h0
      rcases List.mem_cons.1 hb with e | e
      · subst e; exact h0
      · exact ofc_zero h b e
    · rename_i h0; exact absurd h h0
theorem map_fqo {qs : List Bq} (h : ∀ q ∈ qs, OkQ q) : (qs.map bqo).map fq = qs := by
  rw [List.map_map]
  exact (List.map_congr_left fun q hq => (h q hq).fq).trans (List.map_id _)
theorem good_own {qs : List Bq} (h : ∀ q ∈ qs, OkQ q) (hr : Rises qs) (hl : qs.length ≤ 64) : goodl (qs.map bqo) = true := by
  have hget : ∀ i, i < qs.length → ∃ q, qs[i]? = some q ∧ bnat (qs.map bqo) i = bqo q := fun i hi => by
    refine ⟨_, List.getElem?_eq_getElem hi, ?_⟩
    exact bnat_of (by rw [List.getElem?_map, List.getElem?_eq_getElem hi]; rfl)
  rw [goodl_all fun i hi => ?_, List.length_map]
  · exact decide_eq_true hl
  · rw [List.length_map] at hi
    obtain ⟨q, e1, e2⟩ := hget i hi
    have hq := (h q (List.mem_of_getElem? e1)).right
    cases i with
    | zero => rw [okAt_zero, e2, decide_eq_true hq]
    | succ k =>
      obtain ⟨q2, e3, e4⟩ := hget k (by omega)
      have h5 := hr k (k + 1) (by omega) hi
      rw [nat_eq e1, nat_eq e3] at h5
      rw [okAt_succ, e2, e4, decide_eq_true hq, decide_eq_true (show bcmp (bqo q2).1 (bqo q).1 < 0 from h5)]
      rfl
theorem asc_app : ∀ {l m : List ByteArray}, Asc (l ++ m) → ∀ x ∈ l, ∀ y ∈ m, bcmp x y < 0
  | [], m, _, x, hx, _, _ => by simp at hx
  | s :: l, m, h, x, hx, y, hy => by
    rcases List.mem_cons.1 hx with e | e
    · subst e; exact h.1 y (List.mem_append.2 (.inr hy))
    · exact asc_app h.2 x e y hy
theorem ofq_over {qs : List Bq} (ha : Asc (qs.map (·.1))) : ∀ (ss : List Bq), (∀ q ∈ ss, q ∈ qs ∧ fq (bqo q) = q) → ofq qs (ss.map bqo) = qs
  | [], _ => rfl
  | s :: ss, h => by
    have h1 := h s (List.mem_cons_self ..)
    show ofq (insq qs (fq (bqo s))) (ss.map bqo) = qs
    rw [h1.2, insq_self ha h1.1]
    exact ofq_over ha ss fun q hq => h q (List.mem_cons_of_mem _ hq)
theorem ofq_new : ∀ (ss pre : List Bq), Asc ((pre ++ ss).map (·.1)) → (∀ q ∈ ss, fq (bqo q) = q) → ofq pre (ss.map bqo) = pre ++ ss
  | [], pre, _, _ => by simp [ofq]
  | s :: ss, pre, ha, h => by
    show ofq (insq pre (fq (bqo s))) (ss.map bqo) = _
    rw [h s (List.mem_cons_self ..), insq_end fun q hq => ?_]
    · rw [ofq_new ss (pre ++ [s]) (by simpa using ha) fun q hq => h q (List.mem_cons_of_mem _ hq)]
      simp
    · rw [List.map_append] at ha
      exact asc_app ha q.1 (List.mem_map.2 ⟨q, hq, rfl⟩) s.1 (by simp)
theorem difm_self : ∀ (qs : List Bq), difm qs qs = []
  | [] => by rw [difm]; rfl
  | q :: qs => by
    rw [difm_eq (by rw [bcmp_self]; omega) (by rw [bcmp_self]; omega) rfl]
    exact difm_self qs
section
variable {qs : List Bq}
theorem self_laws (h : ∀ q ∈ qs, OkQ q) (hr : Rises qs) (hl : qs.length ≤ 64) :
    (ovc (qs.map bqo) (qs.map bqo) = 0 ∧ ovq (qs.map bqo) (qs.map bqo) = qs) ∧ (ovc (qs.map bqo) [] = 0 ∧ ovq (qs.map bqo) [] = qs) ∧ (ovc [] (qs.map bqo) = 0 ∧ ovq [] (qs.map bqo) = qs) ∧ smb (qs.map bqo) (qs.map bqo) = true := by
  have hg := good_own h hr hl
  have hf := map_fqo h
  have hn : goodl [] = true := by decide
  have e1 : ofq ((qs.map bqo).map fq) (qs.map bqo) = qs := by rw [hf]; exact ofq_over (rises_asc.1 hr) qs fun q hq => ⟨hq, (h q hq).fq⟩
  have e2 : ofq ((qs.map bqo).map fq) [] = qs := hf
  have e3 : ofq (([] : List Bn).map fq) (qs.map bqo) = qs := by
    have := ofq_new qs [] (by simpa using rises_asc.1 hr) fun q hq => (h q hq).fq
    simpa using this
  have c1 : ovc (qs.map bqo) (qs.map bqo) = 0 := ovc_ok hg hg (by rw [e1]; exact hl)
  have c2 : ovc (qs.map bqo) [] = 0 := ovc_ok hg hn (by rw [e2]; exact hl)
  have c3 : ovc [] (qs.map bqo) = 0 := ovc_ok hn hg (by rw [e3]; exact hl)
  refine ⟨⟨c1, (ovq_ok c1).trans e1⟩, ⟨c2, (ovq_ok c2).trans e2⟩, ⟨c3, (ovq_ok c3).trans e3⟩, ?_⟩
  have c4 : dfc (qs.map bqo) (qs.map bqo) = 0 := dfc_ok hg hg
  unfold smb
  rw [c4, dfl_ok c4, difm_self]
  rfl
theorem put_laws {t : ByteArray} {rs : List Cf} (h : ∀ q ∈ qs, OkQ q) (hr : Rises qs) (hl : qs.length ≤ 64) (hz : putc (qs.map bqo) t rs = 0) :
    ∃ ps, putl (qs.map bqo) t rs = ps ∧ ps.length ≤ 64 ∧ dfc (ps.map bqo) (qs.map bqo) = 0 ∧ (dfl (ps.map bqo) (qs.map bqo) = [] ∨ dfl (ps.map bqo) (qs.map bqo) = [t]) ∧
      (ps.length ≠ qs.length → getc (ps.map bqo) t = 0 ∧ drpl (ps.map bqo) t = qs) := by
  have hg := good_own h hr hl
  have hf := map_fqo h
  have hrt : rightc (t, rs) = 0 := by
    apply Classical.byContradiction
    intro hc
    rw [putc_right hg hc] at hz
    exact hc hz
  have hpl : putl (qs.map bqo) t rs = insq qs (t, pn rs) := by rw [putl_ok hz, hf]
  have hlen : (insq qs (t, pn rs)).length ≤ 64 := by
    apply Classical.byContradiction
    intro hc
    rw [putc_many hg hrt (by rw [hf]; omega)] at hz
    exact absurd hz (by decide)
  have hok : ∀ q ∈ insq qs (t, pn rs), OkQ q := insq_all h ⟨(t, rs), hrt, rfl⟩
  have hri := insq_rises qs (t, pn rs) hr
  have hg2 := good_own hok hri hlen
  have hf2 := map_fqo hok
  have hd0 : dfc ((insq qs (t, pn rs)).map bqo) (qs.map bqo) = 0 := dfc_ok hg2 hg
  have ha := rises_asc.1 hr
  have ha2 := rises_asc.1 hri
  refine ⟨_, hpl, hlen, hd0, ?_, fun hne => ?_⟩
  · rw [dfl_ok hd0, hf, hf2]
    refine asc_all (difm_asc ha2 ha) fun s hs => ?_
    obtain ⟨h1, h2⟩ := (difm_mem ha2 ha s).1 hs
    apply Classical.byContradiction
    intro hst
    have hst' : s ≠ ((t, pn rs) : Bq).1 := hst
    have h3 : s ∈ qs.map (·.1) := by
      rcases h1 with h1 | h1
      · rcases (insq_mem qs (t, pn rs) s).1 h1 with e | e
        · exact absurd e hst
        · exact e
      · exact h1
    unfold difP at h2
    rw [insq_lk hst'] at h2
    cases hk : lk qs s with
    | none => exact lk_none.1 hk h3
    | some p => rw [hk] at h2; simp at h2
  · have hmem : t ∉ qs.map (·.1) := fun hm => hne (insq_len_mem (b := (t, pn rs)) ha hm)
    have hnm : nm t = 0 := (rightc_zero hrt).1
    have hat : atn (((insq qs (t, pn rs)).map bqo).map (·.1)) t < ((insq qs (t, pn rs)).map bqo).length := by
      have hnames : ((insq qs (t, pn rs)).map bqo).map (·.1) = (insq qs (t, pn rs)).map (·.1) := by rw [List.map_map]; rfl
      have hm : t ∈ (insq qs (t, pn rs)).map (·.1) := (insq_mem qs (t, pn rs) t).2 (.inl rfl)
      rw [hnames, List.length_map]
      apply Classical.byContradiction
      intro hc
      obtain ⟨k, hk, e⟩ := mem_nat hm
      rw [List.length_map] at hk
      exact atn_before _ t k (by omega) e
    have hgc := getc_yes hg2 hnm hat
    refine ⟨hgc, ?_⟩
    rw [drpl_ok hgc, hf2]
    have := insq_filter (b := (t, pn rs)) ha
    rw [this]
    exact filter_no hmem
end
end Go.Proofs.Ytphofjinncbaaaa
namespace Go.Proofs.Ytphofjinncbaaaa
open Go.RowKit
set_option linter.unusedVariables false
set_option linter.unusedSimpArgs false

theorem ListI.nilw {L : Nat} {w : World} : ListI L w (.slice none 0 0) [] := ⟨none, 0, 0, [], rfl, RdK.nil, rfl, All2.nil⟩
theorem toldc_any {A : Option Addr} {n c L : Nat} {qs : List Bq} {w : World} (h : ListC L w A n c qs) (hn : n ≤ 1073741824) :
    Calls Try.prog 11 #[.slice A n c] w (fun e w' => ∃ A' c', e = .returned (.slice A' n c') ∧ ListC L w' A' n c' qs ∧ Below w.heap.size w w') := by
  obtain ⟨hs, h1, h3⟩ := h
  refine (told_26 h1 hn).mono ?_
  rintro e w' ⟨A', c', rfl, ho, hb⟩
  exact ⟨A', c', rfl, ⟨hs, ho.rd, h3.imp fun _ _ e => e.below hb⟩, hb⟩
set_option maxHeartbeats 16000000 in
set_option maxRecDepth 100000 in
theorem envLaws_any {A A2 : Option Addr} {n c n2 c2 L : Nat} {bs : List Bn} {t : ByteArray} {rs : List Cf} {w : World} (h : ListI L w (.slice A n c) bs) (h2 : PolyI L w (.slice A2 n2 c2) rs) (hts : t.size ≤ maxLen) (hL1 : 1 ≤ L) (hL : L ≤ 268435456) (hn : n ≤ 1048576) (hn2 : n2 ≤ 1048577) :
    Calls Try.prog 3 #[.slice A n c, .string t, .slice A2 n2 c2] w (Keeps (.bool true) w) := by
  have H := Lib.hid h
  have H2 := Lib.hid h2
  have HTS := Lib.hid hts
  have HNQ : Hid (n = bs.length) := h.len.1
  clear h h2 hts
  go_enter Try.func3, Try.ntmps3
  go_wp2_with fail
  refine (awake26_any _).mono ?_
  rintro e w1 ⟨rfl, hb1⟩
  go_wp2_with fail
  refine (copyList_any (H.out.below hb1) hL (by omega)).mono ?_
  rintro e wa ⟨A1, c1, rfl, la, hba⟩
  go_wp2_with fail
  refine (eof_any la hL1 hL (by omega)).mono ?_
  rintro e wb ⟨hbb, hcase⟩
  rcases hcase with ⟨hz, rfl⟩ | ⟨hz, rfl⟩ | ⟨hz, A3, m, c3, rfl, lo⟩
  · have d1 : (ofc bs == 0) = false := by rw [beq_eq_false_iff_ne]; exact hz.out
    have d2 : (ofc bs != 0) = true := by simp [bne, d1]
    generalize ofc bs = z at d1 d2
    have HEND := Lib.hid (bt (bt hb1 hba) hbb)
    go_wp2
    go_ret
    exact ⟨by simp, HEND.out⟩
  · skip
    have HEND := Lib.hid (bt (bt hb1 hba) hbb)
    go_wp2
    go_ret
    exact ⟨by simp, HEND.out⟩
  · obtain ⟨qs, hqs⟩ : ∃ qs, qs = ofq [] bs := ⟨_, rfl⟩
    have HOK : Hid (∀ q ∈ qs, OkQ q) := by rw [hqs]; exact ofq_all bs [] (by simp) (fun b hb => ⟨b, ofc_zero hz.out.1 b hb, rfl⟩)
    have HRI : Hid (Rises qs) := by rw [hqs]; exact ofq_rises bs [] (fun i j _ h => by simp at h)
    have HL64 : Hid (qs.length ≤ 64) := by rw [hqs]; exact hz.out.2
    rw [← hqs] at lo
    clear hqs hz
    have HLM : Hid (m = qs.length) := lo.len
    have hm64 : m ≤ 64 := by have := HL64.out; have := HLM.out; omega
    have HS := Lib.hid (self_laws HOK.out HRI.out HL64.out)
    have hli := lo.inp
    go_wp2_with fail
    refine (copyList_any hli hL (by omega)).mono ?_
    rintro e wc ⟨A4, c4, rfl, lc, hbc⟩
    go_wp2_with fail
    refine (copyList_any (hli.below hbc) hL (by omega)).mono ?_
    rintro e wd ⟨A5, c5, rfl, ld, hbd⟩
    go_wp2_with fail
    refine (eover_any (lc.below hbd) ld hL1 hL (by omega) (by omega)).mono ?_
    rintro e we ⟨hbe, A6, m6, c6, rfl, le⟩
    rw [HS.out.1.2] at le
    rw [HS.out.1.1]
    have hm6 : m6 ≤ 64 := by rw [le.len]; exact HL64.out
    go_wp2_with fail
    refine (copyList_any (((hli.below hbc).below hbd).below hbe) hL (by omega)).mono ?_
    rintro e wf ⟨A7, c7, rfl, lf, hbf⟩
    go_wp2_with fail
    refine (eover_any lf ListI.nilw hL1 hL (by omega) (by omega)).mono ?_
    rintro e wg ⟨hbg, A8, m8, c8, rfl, lg⟩
    rw [HS.out.2.1.2] at lg
    rw [HS.out.2.1.1]
    have hm8 : m8 ≤ 64 := by rw [lg.len]; exact HL64.out
    go_wp2_with fail
    refine (copyList_any (((((hli.below hbc).below hbd).below hbe).below hbf).below hbg) hL (by omega)).mono ?_
    rintro e wh ⟨A9, c9, rfl, lh, hbh⟩
    go_wp2_with fail
    refine (eover_any ListI.nilw lh hL1 hL (by omega) (by omega)).mono ?_
    rintro e wi ⟨hbi, A10, m10, c10, rfl, lj⟩
    rw [HS.out.2.2.1.2] at lj
    rw [HS.out.2.2.1.1]
    have hm10 : m10 ≤ 64 := by rw [lj.len]; exact HL64.out
    go_wp2_with fail
    refine (toldc_any ((((le.c.below hbf).below hbg).below hbh).below hbi) (by omega)).mono ?_
    rintro e w_k1 ⟨A_k1, c_k1, rfl, t_k1, hb_k1⟩
    go_wp2_with fail
    refine (toldc_any ((((((((lo.c.below hbc).below hbd).below hbe).below hbf).below hbg).below hbh).below hbi).below hb_k1) (by omega)).mono ?_
    rintro e w_k2 ⟨A_k2, c_k2, rfl, t_k2, hb_k2⟩
    go_wp2_with fail
    refine (like26_yes (t_k1.below hb_k2) t_k2 (by omega) (by omega)).mono ?_
    rintro e w2 ⟨rfl, hb2⟩
    go_wp2_with fail
    refine (toldc_any (((((lg.c.below hbh).below hbi).below hb_k1).below hb_k2).below hb2) (by omega)).mono ?_
    rintro e w_k3 ⟨A_k3, c_k3, rfl, t_k3, hb_k3⟩
    go_wp2_with fail
    refine (toldc_any (((((((((((lo.c.below hbc).below hbd).below hbe).below hbf).below hbg).below hbh).below hbi).below hb_k1).below hb_k2).below hb2).below hb_k3) (by omega)).mono ?_
    rintro e w_k4 ⟨A_k4, c_k4, rfl, t_k4, hb_k4⟩
    go_wp2_with fail
    refine (like26_yes (t_k3.below hb_k4) t_k4 (by omega) (by omega)).mono ?_
    rintro e w3 ⟨rfl, hb3⟩
    go_wp2_with fail
    refine (toldc_any ((((((lj.c.below hb_k1).below hb_k2).below hb2).below hb_k3).below hb_k4).below hb3) (by omega)).mono ?_
    rintro e w_k5 ⟨A_k5, c_k5, rfl, t_k5, hb_k5⟩
    go_wp2_with fail
    refine (toldc_any ((((((((((((((lo.c.below hbc).below hbd).below hbe).below hbf).below hbg).below hbh).below hbi).below hb_k1).below hb_k2).below hb2).below hb_k3).below hb_k4).below hb3).below hb_k5) (by omega)).mono ?_
    rintro e w_k6 ⟨A_k6, c_k6, rfl, t_k6, hb_k6⟩
    go_wp2_with fail
    refine (like26_yes (t_k5.below hb_k6) t_k6 (by omega) (by omega)).mono ?_
    rintro e w4 ⟨rfl, hb4⟩
    go_wp2_with fail
    refine (copyList_any ((((((((((((((((hli.below hbc).below hbd).below hbe).below hbf).below hbg).below hbh).below hbi).below hb_k1).below hb_k2).below hb2).below hb_k3).below hb_k4).below hb3).below hb_k5).below hb_k6).below hb4) hL (by omega)).mono ?_
    rintro e wl ⟨A11, c11, rfl, ll, hbl⟩
    go_wp2_with fail
    refine (copyList_any (((((((((((((((((hli.below hbc).below hbd).below hbe).below hbf).below hbg).below hbh).below hbi).below hb_k1).below hb_k2).below hb2).below hb_k3).below hb_k4).below hb3).below hb_k5).below hb_k6).below hb4).below hbl) hL (by omega)).mono ?_
    rintro e wm ⟨A12, c12, rfl, lm, hbm⟩
    have CS := Lib.hid (esame_any (ll.below hbm) lm hL1 hL (by omega) (by omega))
    rw [HS.out.2.2.2] at CS
    go_wp2_with fail
    refine (CS.out).mono ?_
    rintro e w5 ⟨rfl, hb5⟩
    go_wp2_with fail
    refine (copyList_any (((((((((((((((((((hli.below hbc).below hbd).below hbe).below hbf).below hbg).below hbh).below hbi).below hb_k1).below hb_k2).below hb2).below hb_k3).below hb_k4).below hb3).below hb_k5).below hb_k6).below hb4).below hbl).below hbm).below hb5) hL (by omega)).mono ?_
    rintro e wn ⟨A13, c13, rfl, ln, hbn⟩
    go_wp2_with fail
    refine (copyPoly_any (((((((((((((((((((((((H2.out.below hb1).below hba).below hbb).below hbc).below hbd).below hbe).below hbf).below hbg).below hbh).below hbi).below hb_k1).below hb_k2).below hb2).below hb_k3).below hb_k4).below hb3).below hb_k5).below hb_k6).below hb4).below hbl).below hbm).below hb5).below hbn) hL (by omega)).mono ?_
    rintro e wo ⟨v, rfl, hpw, hbo⟩
    obtain ⟨B1, n9, d9, hs0, rfl, q1, q2, q3⟩ := id hpw
    have hn9 : n9 ≤ 1073741824 := by rw [q2]; have := H2.out.len; omega
    clear q1 q2 q3
    go_wp2_with fail
    refine (eput_any (ln.below hbo) hpw.i HTS.out hL1 hL (by omega) hn9).mono ?_
    rintro e wp ⟨hbp, A14, m14, c14, rfl, lp⟩
    by_cases hz : putc (qs.map bqo) t rs = 0
    · obtain ⟨ps, hps, hpl, hd0, hdl, hdrop⟩ := put_laws HOK.out HRI.out HL64.out hz
      rw [hps] at lp
      rw [hz]
      have HD0 := Lib.hid hd0
      have HDL := Lib.hid hdl
      have HDR := Lib.hid hdrop
      have HLP : Hid (m14 = ps.length) := lp.len
      have hm14 : m14 ≤ 64 := by have := HLP.out; omega
      clear hz hps hd0 hdl hdrop
      have hlip := lp.inp
      go_wp2_with fail
      refine (copyList_any hlip hL (by omega)).mono ?_
      rintro e wq ⟨A15, c15, rfl, lq, hbq⟩
      go_wp2_with fail
      refine (copyList_any (((((((((((((((((((((((hli.below hbc).below hbd).below hbe).below hbf).below hbg).below hbh).below hbi).below hb_k1).below hb_k2).below hb2).below hb_k3).below hb_k4).below hb3).below hb_k5).below hb_k6).below hb4).below hbl).below hbm).below hb5).below hbn).below hbo).below hbp).below hbq) hL (by omega)).mono ?_
      rintro e wr ⟨A16, c16, rfl, lr, hbr⟩
      go_wp2_with fail
      refine (edif_any (lq.below hbr) lr hL1 hL (by omega) (by omega)).mono ?_
      rintro e ws ⟨hbs, A17, m17, c17, rfl, rr, hm17⟩
      rw [HD0.out]
      rcases HDL.out with hdl | hdl
      · rw [hdl] at rr
        obtain rfl : m17 = 0 := by have h1 := rr.1.1; simp at h1; omega
        clear hdl rr
        by_cases he : m14 = m
        · subst he
          have HEND := Lib.hid (bt (bt (bt (bt (bt (bt (bt (bt (bt (bt (bt (bt (bt (bt (bt (bt (bt (bt (bt (bt (bt (bt (bt (bt (bt (bt (bt hb1 hba) hbb) hbc) hbd) hbe) hbf) hbg) hbh) hbi) hb_k1) hb_k2) hb2) hb_k3) hb_k4) hb3) hb_k5) hb_k6) hb4) hbl) hbm) hb5) hbn) hbo) hbp) hbq) hbr) hbs)
          go_wp2
          go_ret
          exact ⟨by simp, HEND.out⟩
        · have d1 : ((m14 : Int) == (m : Int)) = false := by rw [beq_eq_false_iff_ne]; omega
          have hdd := HDR.out (by have := HLP.out; have := HLM.out; omega)
          go_wp2_with fail
          refine (edrop_any (((hlip.below hbq).below hbr).below hbs) HTS.out hL1 hL (by omega)).mono ?_
          rintro e wt ⟨hbt, A18, m18, c18, rfl, lt⟩
          rw [hdd.2] at lt
          rw [hdd.1]
          have hm18 : m18 ≤ 64 := by rw [lt.len]; exact HL64.out
          clear hdd
          go_wp2_with fail
          refine (toldc_any lt.c (by omega)).mono ?_
          rintro e w_k7 ⟨A_k7, c_k7, rfl, t_k7, hb_k7⟩
          go_wp2_with fail
          refine (toldc_any (((((((((((((((((((((((((((lo.c.below hbc).below hbd).below hbe).below hbf).below hbg).below hbh).below hbi).below hb_k1).below hb_k2).below hb2).below hb_k3).below hb_k4).below hb3).below hb_k5).below hb_k6).below hb4).below hbl).below hbm).below hb5).below hbn).below hbo).below hbp).below hbq).below hbr).below hbs).below hbt).below hb_k7) (by omega)).mono ?_
          rintro e w_k8 ⟨A_k8, c_k8, rfl, t_k8, hb_k8⟩
          go_wp2_with fail
          refine (like26_yes (t_k7.below hb_k8) t_k8 (by omega) (by omega)).mono ?_
          rintro e w6 ⟨rfl, hb6⟩
          have HEND := Lib.hid (bt (bt (bt (bt (bt (bt (bt (bt (bt (bt (bt (bt (bt (bt (bt (bt (bt (bt (bt (bt (bt (bt (bt (bt (bt (bt (bt (bt (bt (bt (bt hb1 hba) hbb) hbc) hbd) hbe) hbf) hbg) hbh) hbi) hb_k1) hb_k2) hb2) hb_k3) hb_k4) hb3) hb_k5) hb_k6) hb4) hbl) hbm) hb5) hbn) hbo) hbp) hbq) hbr) hbs) hbt) hb_k7) hb_k8) hb6)
          go_wp2
          go_ret
          exact ⟨by simp, HEND.out⟩
      · rw [hdl] at rr
        obtain rfl : m17 = 1 := by have h1 := rr.1.1; simp at h1; omega
        obtain ⟨b, off, e, g0⟩ := rr.at1 (i := 0) rfl
        subst e
        have x0 := g0.1
        rw [Nat.add_zero] at x0
        have d3 : (t.toList == t.toList) = true := by simp
        clear hdl rr
        by_cases he : m14 = m
        · subst he
          have HEND := Lib.hid (bt (bt (bt (bt (bt (bt (bt (bt (bt (bt (bt (bt (bt (bt (bt (bt (bt (bt (bt (bt (bt (bt (bt (bt (bt (bt (bt hb1 hba) hbb) hbc) hbd) hbe) hbf) hbg) hbh) hbi) hb_k1) hb_k2) hb2) hb_k3) hb_k4) hb3) hb_k5) hb_k6) hb4) hbl) hbm) hb5) hbn) hbo) hbp) hbq) hbr) hbs)
          go_wp2
          go_ret
          exact ⟨by simp, HEND.out⟩
        · have d1 : ((m14 : Int) == (m : Int)) = false := by rw [beq_eq_false_iff_ne]; omega
          have hdd := HDR.out (by have := HLP.out; have := HLM.out; omega)
          go_wp2_with fail
          refine (edrop_any (((hlip.below hbq).below hbr).below hbs) HTS.out hL1 hL (by omega)).mono ?_
          rintro e wt ⟨hbt, A18, m18, c18, rfl, lt⟩
          rw [hdd.2] at lt
          rw [hdd.1]
          have hm18 : m18 ≤ 64 := by rw [lt.len]; exact HL64.out
          clear hdd
          go_wp2_with fail
          refine (toldc_any lt.c (by omega)).mono ?_
          rintro e w_k7 ⟨A_k7, c_k7, rfl, t_k7, hb_k7⟩
          go_wp2_with fail
          refine (toldc_any (((((((((((((((((((((((((((lo.c.below hbc).below hbd).below hbe).below hbf).below hbg).below hbh).below hbi).below hb_k1).below hb_k2).below hb2).below hb_k3).below hb_k4).below hb3).below hb_k5).below hb_k6).below hb4).below hbl).below hbm).below hb5).below hbn).below hbo).below hbp).below hbq).below hbr).below hbs).below hbt).below hb_k7) (by omega)).mono ?_
          rintro e w_k8 ⟨A_k8, c_k8, rfl, t_k8, hb_k8⟩
          go_wp2_with fail
          refine (like26_yes (t_k7.below hb_k8) t_k8 (by omega) (by omega)).mono ?_
          rintro e w7 ⟨rfl, hb7⟩
          have HEND := Lib.hid (bt (bt (bt (bt (bt (bt (bt (bt (bt (bt (bt (bt (bt (bt (bt (bt (bt (bt (bt (bt (bt (bt (bt (bt (bt (bt (bt (bt (bt (bt (bt hb1 hba) hbb) hbc) hbd) hbe) hbf) hbg) hbh) hbi) hb_k1) hb_k2) hb2) hb_k3) hb_k4) hb3) hb_k5) hb_k6) hb4) hbl) hbm) hb5) hbn) hbo) hbp) hbq) hbr) hbs) hbt) hb_k7) hb_k8) hb7)
          go_wp2
          go_ret
          exact ⟨by simp, HEND.out⟩
    · have hpl : putl (qs.map bqo) t rs = [] := putl_no hz
      rw [hpl] at lp
      obtain rfl : m14 = 0 := by have := lp.len; simpa using this
      have d1 : (putc (qs.map bqo) t rs == 0) = false := by rw [beq_eq_false_iff_ne]; exact hz
      have d2 : (putc (qs.map bqo) t rs != 0) = true := by simp [bne, d1]
      generalize putc (qs.map bqo) t rs = z at d1 d2
      have HEND := Lib.hid (bt (bt (bt (bt (bt (bt (bt (bt (bt (bt (bt (bt (bt (bt (bt (bt (bt (bt (bt (bt (bt (bt (bt (bt hb1 hba) hbb) hbc) hbd) hbe) hbf) hbg) hbh) hbi) hb_k1) hb_k2) hb2) hb_k3) hb_k4) hb3) hb_k5) hb_k6) hb4) hbl) hbm) hb5) hbn) hbo) hbp)
      clear hz
      go_wp2
      go_ret
      exact ⟨by simp, HEND.out⟩
end Go.Proofs.Ytphofjinncbaaaa
