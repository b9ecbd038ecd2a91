/-
  slices.Insert at bindings, anywhere. env.put, in general. env.Of. Putting one binding behind another into a list that rises. surdref26.form, set. surdref26.set. surdref26.Of.
-/
import Derived.Test.YtamfhmmcnlollaaGreatEnvXL
import Derived.Lib.Overlaps
import Derived.Lib.AppendZeros
import Derived.Laws.CopyRow
namespace Go.Proofs.YtamfhmmcnlollaaGreat
open Go.RowKit
set_option linter.unusedVariables false
set_option linter.unusedSimpArgs false

section
variable {P : Program}
/-- copy of elements of k cells into a row that is known whole -/
theorem run_copy_rowK (w : World) (dT sT ty elem : TypeId) (g o dLen dCap : Nat) (a : Addr) (sLen sCap k : Nat) (cur : Array Value) (t : TypeId) (cs : List Value)
    (hu : P.underlying dT = some (.slice elem)) (hs : (P.info? elem).map (·.size) = some k)
    (hg : w.heap[g]? = some (.cells cur t (0, 0))) (hn : cs.length = Nat.min sLen dLen * k)
    (hsrc : ∀ j v, cs[j]? = some v → w.cell? (a.add j) = some v) (hfit : o + cs.length ≤ cur.size) (h1 : ∀ v ∈ cs, v.oneCell' = true) :
    (Builtin.copy_ #[dT, sT] ty #[.slice (some ⟨g, o, none⟩) dLen dCap, .slice (some a) sLen sCap]).run P w =
      .ok (goInt (Nat.min sLen dLen)) (w.setRow g (cur.toList.take o ++ cs ++ cur.toList.drop (o + cs.length)).toArray) := by
  have hl := run_loadCells_list (P := P) w a cs hsrc
  have hst := run_storeCells_at P g o t cs 0 cur w hg (by simpa using hfit) h1
  cases hq : P.info? elem with
  | none => simp [hq] at hs
  | some i =>
    have hi : i.size = k := by simpa [hq] using hs
    simp [Builtin.copy_, run_underlying hu, Builtin.lenOf, Builtin.firstCells, sizeOf, typeInfo, hq, hi, ← hn, hl, hst]
theorem flt_cpK {R R1 : World → World → Prop} {G : Nat → Value → World → Prop} {l : List Oper} {Q : Exit → Act → World → Prop} {i : Nat} {o : Oper} {rest : List (Nat × Nat)} {a : Act} {w : World} (ho' : opAt l i = some o) (hgd : o.guard = none) (d s : Operand) (t t' : TypeId)
    (ho : o.op = .call { callee := .builtin .copy, args := #[d, s], argTypes := #[t, t'] }) (v u : Value) (hd : a.eval d = v) (hs : a.eval s = u) {v' : Value} {w' : World}
    (hr : (Builtin.copy_ #[t, t'] o.type #[v, u]).run P w = .ok v' w') (hR : R w w') (h : wpF P l.toArray Q R R1 rest G (a.put o.dst v') w') : wpF P l.toArray Q R R1 ((3, i) :: rest) G a w := by
  refine flt_actX ho' fun K hK => ?_
  rw [if_pos (by simp [Region.wanted, hgd])]
  unfold Oper.wp execOp
  simp only [ho, resolve, invoke, builtin, Sem.run_bind, Sem.run_pure, Result.andThen_ok, List.map_toArray, List.map_cons, List.map_nil, hd, hs, hr]
  exact hK _ _ ⟨hR, h⟩
theorem wpList_apZ (w : World) {ops : Array Oper} {rest : List Oper} {o : Oper} {a : Act} {Q : Exit → Act → World → Prop} (hgd : o.guard = none) (s x : Operand) (t tn : TypeId)
    (ho : o.op = .call { callee := .builtin .append, args := #[s, x], argTypes := #[t, tn] }) (v u : Value) (hs : a.eval s = v) (hx : a.eval x = u) {v' : Value} {w' : World}
    (hr : (Builtin.append_ #[t, tn] o.type #[v, u]).run P w = .ok v' w') (h : wpList P ops Q rest (a.put o.dst v') w') : wpList P ops Q (o :: rest) a w := by
  refine wpList_plain hgd fun K hK => ?_
  unfold Oper.wp execOp
  simp only [ho, resolve, invoke, builtin, Sem.run_bind, Sem.run_pure, Result.andThen_ok, List.map_toArray, List.map_cons, List.map_nil, hs, hx, hr]
  exact hK _ _ h
/-- append(s, make(.., m)...) where there is no room -/
theorem run_apZK {T TT tn : TypeId} {z : Value} {k bytes B n c m g : Nat} {w : World} {vs : List Value} (ty : TypeId) (he : ElemK P TT T z k bytes) (htn : P.underlying tn = some (.int .i64)) (hown : RowK k T B w (some ⟨g, 0, none⟩) n c vs) (hm : 0 < m) (hm2 : m ≤ 1000) (hn : n ≤ 1000) (hroom : c < n + m) :
    (Builtin.append_ #[TT, tn] ty #[.slice (some ⟨g, 0, none⟩) n c, .int .i64 (m : Int)]).run P w = .ok (.slice (some ⟨w.heap.size, 0, none⟩) (n + m) (grownCap w (n + m) c T)) (w.drew.alloc (.cells (vs.toArray ++ Builtin.zeroCells z.cells m ++ Builtin.zeroCells z.cells (grownCap w (n + m) c T - (n + m))) T)) := by
  obtain ⟨⟨hT, hinfo⟩, hzs, hk, hby⟩ := he
  obtain ⟨i, hi, hz, hs, hb⟩ := info_parts hinfo
  have hmw : IntKind.i64.wrap (m : Int) = m := by rw [IntKind.wrap_i64]; omega
  have hneg : ¬ ((m : Int) < 0) := by omega
  have hmb : (m : Int) * (i.bytes : Int) ≤ 1000 * 64 := by
    have h1 : m * i.bytes ≤ 1000 * 64 := Nat.mul_le_mul hm2 (by omega)
    have h2 : ((m * i.bytes : Nat) : Int) ≤ ((1000 * 64 : Nat) : Int) := Int.ofNat_le.2 h1
    rw [Int.natCast_mul] at h2
    exact h2
  have hns : ¬ (m * k = 0) := by rw [Nat.mul_eq_zero]; omega
  have h48i : ¬ (281474976710656 < (m : Int) * (i.bytes : Int)) := by omega
  have holds : ∀ j u, vs[j]? = some u → w.cell? ((⟨g, 0, none⟩ : Addr).add j) = some u := fun j u hj => (World.ownsRow.cells hown (g := g) rfl) j u hj
  have hfo := run_firstCells_some (P := P) w.drew i.size n ⟨g, 0, none⟩ n c vs (by rw [hs]; exact hown.1) (by simpa using holds)
  rw [hs] at hfo
  have h63' : ¬ (9223372036854775807 < ((n : Int) + (m : Int))) := by omega
  have h48' : ¬ (281474976710656 < Builtin.nextslicecap (n + m) c * i.bytes) := by
    have := growslice_fits (need := n + m) (old := c) (bytes := i.bytes) (by omega) (by
      calc (n + m) * i.bytes ≤ 2000 * 64 := Nat.mul_le_mul (by omega) (by omega)
        _ ≤ 140737488355328 := by decide)
    omega
  have hm0 : m ≠ 0 := by omega
  have hroom' : ¬ (n + m ≤ c) := by omega
  simp [Builtin.append_, run_underlying hT, run_underlying htn, sizeOf, typeInfo, zeroValue, hi, hz, hs, asInt, asIntOf, hmw, hneg, h48i, hm0, hns, hroom', h63', h48', Question.forced, hfo, newRow, grownCap]
end
theorem ins_list {vs us rest : List Value} {cur : List Value} {i n : Nat} (h : cur.take (n * 2) = vs) (hv : vs.length = n * 2) (hu : us.length = 2) (hi : i ≤ n) {c1 c2 : List Value} (hc : (i + 1) * 2 ≤ cur.length)
    (e1 : c1 = cur.take ((i + 1) * 2) ++ vs.drop (i * 2) ++ rest) (e2 : c2 = c1.take (i * 2) ++ us ++ c1.drop (i * 2 + us.length)) : c2.take ((n + 1) * 2) = vs.take (i * 2) ++ us ++ vs.drop (i * 2) := by
  have h1 : c1.take (i * 2) = vs.take (i * 2) := by
    rw [e1, List.append_assoc, List.take_append_of_le_length (by rw [List.length_take]; omega), List.take_take, ← h, List.take_take]
    congr 1
    omega
  have h2 : c1.drop (i * 2 + us.length) = vs.drop (i * 2) ++ rest := by
    have hl : (cur.take ((i + 1) * 2)).length = i * 2 + us.length := by rw [List.length_take, hu]; omega
    rw [e1, List.append_assoc, ← hl, List.drop_left]
  rw [e2, h1, h2, ← List.append_assoc]
  have hl : (vs.take (i * 2) ++ us ++ vs.drop (i * 2)).length = (n + 1) * 2 := by
    simp only [List.length_append, List.length_take, List.length_drop, hu, hv]
    omega
  rw [← hl, List.take_left]
theorem ins_list2 {vs us r0 r1 : List Value} {i n : Nat} (hv : vs.length = n * 2) (hu : us.length = 2) (hi : i ≤ n) {c0 c1 c2 : List Value}
    (e0 : c0 = vs.take (i * 2) ++ r0) (e1 : c1 = c0.take (i * 2) ++ us ++ r1) (e2 : c2 = c1.take ((i + 1) * 2) ++ vs.drop (i * 2) ++ c1.drop ((i + 1) * 2 + (vs.drop (i * 2)).length)) : c2.take ((n + 1) * 2) = vs.take (i * 2) ++ us ++ vs.drop (i * 2) := by
  have hli : (vs.take (i * 2)).length = i * 2 := by rw [List.length_take, hv]; omega
  have h0 : c0.take (i * 2) = vs.take (i * 2) := by
    rw [e0, List.take_append_of_le_length (by rw [hli]; exact Nat.le_refl _), List.take_take, Nat.min_self]
  have h1 : c1.take ((i + 1) * 2) = vs.take (i * 2) ++ us := by
    have hl : (vs.take (i * 2) ++ us).length = (i + 1) * 2 := by rw [List.length_append, hli, hu]; omega
    rw [e1, h0, ← hl, List.take_left]
  rw [e2, h1]
  have hl : (vs.take (i * 2) ++ us ++ vs.drop (i * 2)).length = (n + 1) * 2 := by
    simp only [List.length_append, List.length_take, List.length_drop, hu, hv]
    omega
  rw [← hl, List.take_left]
theorem sizeBind (w : World) : (sizeOf 57).run Tryz.prog w = .ok 2 w := by
  obtain ⟨i, hi, hz, hs, hb⟩ := info_parts elBind.1.2
  simp [sizeOf, typeInfo, hi, hs]
theorem ovl_no {g g2 o la ca lb cb : Nat} {w : World} {c1 c2 : Array Value} {t1 t2 : TypeId} (h1 : w.heap[g2]? = some (.cells c2 t2 (0, 0))) (h2 : w.heap[g]? = some (.cells c1 t1 (0, 0))) (hne : g2 ≠ g) (hs : c1.size ≠ 0) :
    (callFunc 150 #[.slice (some ⟨g2, 0, none⟩) la ca, .slice (some ⟨g, o, none⟩) lb cb]).run Tryz.prog w = .ok (.value (.bool false)) w := by
  rw [run_callFunc_extern Tryz.func150 (by kernel_rfl) (by kernel_rfl) (by kernel_rfl) (e := Extern.SlicesOverlaps.overlaps #[44, 44] #[4]) (by kernel_rfl),
    Lib.run_overlaps_apart w 44 4 57 Tryz.underlying44 2 sizeBind ⟨g2, 0, none⟩ ⟨g, o, none⟩ la ca lb cb hne t2 t1 c2.size c1.size (by simp [World.shape?, h1]) (by simp [World.shape?, h2]) hs (by simp [World.frozen?, h1]) (by simp [World.frozen?, h1])]
  rfl
set_option maxHeartbeats 4000000 in
set_option maxRecDepth 100000 in
/-- in the middle, there is room -/
theorem insRoom_any {B n c i g g2 : Nat} {vs us : List Value} {w : World} (h : RowK 2 57 B w (some ⟨g, 0, none⟩) n c vs) (h2 : w.heap[g2]? = some (.cells us.toArray 57 (0, 0))) (hul : us.length = 2) (hne : g2 ≠ g) (hv1 : ∀ u ∈ vs, u.oneCell' = true) (hu1 : ∀ u ∈ us, u.oneCell' = true) (hi : i < n) (hn : n ≤ 64) (hroom : n + 1 ≤ c) :
    Calls Tryz.prog 120 #[.slice (some ⟨g, 0, none⟩) n c, .int .i64 (i : Int), .slice (some ⟨g2, 0, none⟩) 1 1] w (fun e w' => e = .returned (.slice (some ⟨g, 0, none⟩) (n + 1) c) ∧ RowK 2 57 B w' (some ⟨g, 0, none⟩) (n + 1) c (vs.take (i * 2) ++ us ++ vs.drop (i * 2)) ∧ w.grownBy w' (some g)) := by
  obtain ⟨hvl, hr⟩ := id h
  rcases hr with ⟨hnil, _⟩ | ⟨g', cap, cur, hv, hgB, hh, hnc, hcm, hcs, htk⟩
  · cases hnil
  injection hv with e1 _ e3
  injection e1 with e1
  injection e1 with e1
  subst e1 e3
  have hc2 : c ≤ 9223372036854775807 := by unfold maxLen at hcm; omega
  have HOV := Lib.hid fun o la ca lb cb => ovl_no (la := la) (ca := ca) (lb := lb) (cb := cb) (o := o) (w := w) h2 hh hne (by rw [hcs]; omega)
  have i1 : (0 : Int) ≤ (i : Int) := by omega
  have i2 : (i : Int) ≤ (n : Int) := by omega
  have i3 : ((i : Int) == (n : Int)) = false := by rw [beq_eq_false_iff_ne]; omega
  have i4 : ¬ ((i : Int) = (n : Int)) := by omega
  have i5 : (i : Int) + 1 ≤ (n : Int) + 1 := by omega
  have i6 : (n : Int) + 1 ≤ (c : Int) := by omega
  have i7 : ¬ (c = i + 1) := by omega
  have i8 : ¬ (c = i) := by omega
  have i9 : ¬ ((c : Int) < (n : Int) + 1) := by omega
  have HCM := Lib.hid hcm
  have H := Lib.hid h
  have HKS : (Tryz.prog.info? 57).map (·.size) = some 2 := by
    obtain ⟨i0, hi0, h0, h1, h2⟩ := info_parts elBind.1.2
    rw [hi0]; simp [h1]
  have HKS := Lib.hid HKS
  clear hcm
  have HV := Lib.hid (And.intro hvl (And.intro htk (And.intro hcs hh)))
  have H1 := Lib.hid (And.intro hv1 (And.intro hu1 (And.intro h2 hul)))
  clear hvl htk hcs hh hv1 hu1 h2 hul h
  go_enter Tryz.func120, Tryz.ntmps120
  go_wp2_with (simp only [HOV.out])
  have hvl := HV.out.1
  have hcs := HV.out.2.2.1
  have hul := H1.out.2.2.2
  have hdl : (vs.drop (i * 2)).length = (n - i) * 2 := by rw [List.length_drop, hvl]; omega
  obtain ⟨cur1, e1⟩ : ∃ cur1, cur1 = (cur.toList.take ((i + 1) * 2) ++ vs.drop (i * 2) ++ cur.toList.drop ((i + 1) * 2 + (vs.drop (i * 2)).length)).toArray := ⟨_, rfl⟩
  have hr1 : ∀ ty dc sc, (Builtin.copy_ #[44, 44] ty #[.slice (some ⟨g, (i + 1) * 2, none⟩) (n - i) dc, .slice (some ⟨g, i * 2, none⟩) (n + 1 - i) sc]).run Tryz.prog w.drew = .ok (goInt (Nat.min (n + 1 - i) (n - i))) (w.drew.setRow g cur1) := fun ty dc sc => by
    rw [e1]
    exact run_copy_rowK w.drew _ _ ty 57 g ((i + 1) * 2) (n - i) dc ⟨g, i * 2, none⟩ (n + 1 - i) sc 2 cur 57 (vs.drop (i * 2)) Tryz.underlying44 HKS.out HV.out.2.2.2 (by rw [hdl]; simp only [Nat.min_def]; split <;> omega)
      (fun j v hj => by
        rw [addo]
        rw [List.getElem?_drop] at hj
        have hlt := (List.getElem?_eq_some_iff.1 hj).1
        have := H.out.cell (i := i * 2 + j) (by omega)
        rw [hj] at this
        exact this) (by rw [hdl, hcs]; omega) (fun v hv => H1.out.1 v (List.mem_of_mem_drop hv))
  have hs1 : cur1.size = c * 2 := by
    rw [e1]
    simp only [List.size_toArray, List.length_append, List.length_take, List.length_drop, Array.length_toList, hcs, hvl]
    omega
  have hg1 : (w.drew.setRow g cur1).heap[g]? = some (.cells cur1 57 (0, 0)) := setRow_heap w.drew g cur cur1 _ _ HV.out.2.2.2
  have hg2 : (w.drew.setRow g cur1).heap[g2]? = some (.cells us.toArray 57 (0, 0)) := (setRow_other w.drew g g2 cur1 hne).trans H1.out.2.2.1
  have hgr1 : w.grownBy (w.drew.setRow g cur1) (some g) := ⟨rfl, rfl, rfl, by simp, fun k _ hk => setRow_other w.drew g k cur1 (fun e => hk (by rw [e]))⟩
  have hgr1' : Grow (some g) w.drew (w.drew.setRow g cur1) := ⟨rfl, rfl, rfl, by simp, fun k _ hk => setRow_other w.drew g k cur1 (fun e => hk (by rw [e]))⟩
  obtain ⟨W1, hW1⟩ : ∃ W1, W1 = w.drew.setRow g cur1 := ⟨_, rfl⟩
  rw [← hW1] at hr1 hg1 hg2 hgr1 hgr1'
  clear hW1
  obtain ⟨cur2, e2⟩ : ∃ cur2, cur2 = (cur1.toList.take (i * 2) ++ us ++ cur1.toList.drop (i * 2 + us.length)).toArray := ⟨_, rfl⟩
  have hr2 : ∀ ty dc, (Builtin.copy_ #[44, 44] ty #[.slice (some ⟨g, i * 2, none⟩) (n + 1 - i) dc, .slice (some ⟨g2, 0, none⟩) 1 1]).run Tryz.prog W1 = .ok (goInt (Nat.min 1 (n + 1 - i))) (W1.setRow g cur2) := fun ty dc => by
    rw [e2]
    exact run_copy_rowK W1 _ _ ty 57 g (i * 2) (n + 1 - i) dc ⟨g2, 0, none⟩ 1 1 2 cur1 57 us Tryz.underlying44 HKS.out hg1 (by rw [hul]; simp only [Nat.min_def]; split <;> omega)
      (fun j v hj => by rw [addo, Nat.zero_add, cell_of_row _ _ _ _ _ _ hg2]; simpa using hj) (by rw [hul, hs1]; omega) H1.out.2.1
  have hs2 : cur2.size = c * 2 := by
    rw [e2]
    simp only [List.size_toArray, List.length_append, List.length_take, List.length_drop, Array.length_toList, hs1, hul]
    omega
  have hlst : cur2.toList.take ((n + 1) * 2) = vs.take (i * 2) ++ us ++ vs.drop (i * 2) :=
    ins_list (cur := cur.toList) (c1 := cur1.toList) HV.out.2.1 hvl hul (by omega) (by rw [Array.length_toList, hcs]; omega) (by rw [e1]) (by rw [e2])
  have HR : Hid (RowK 2 57 B (W1.setRow g cur2) (some ⟨g, 0, none⟩) (n + 1) c (vs.take (i * 2) ++ us ++ vs.drop (i * 2)) ∧ w.grownBy (W1.setRow g cur2) (some g)) := by
    refine ⟨⟨?_, .inr ⟨g, c, cur2, rfl, hgB, setRow_heap W1 g cur1 cur2 _ _ hg1, hroom, HCM.out, hs2, hlst⟩⟩, ?_⟩
    · rw [← hlst, List.length_take, Array.length_toList, hs2]; omega
    · exact World.grownBy.trans hgr1 ⟨rfl, rfl, rfl, by simp, fun k _ hk => setRow_other W1 g k cur2 (fun e => hk (by rw [e]))⟩
  have HR1 := Lib.hid hr1
  have HR2 := Lib.hid hr2
  have HG1 := Lib.hid hgr1'
  clear hr1 hr2 hgr1 hgr1' hg1 hg2 hlst hs1 hs2 e1 e2 hvl hcs hul hdl
  have w1 : IntKind.i64.wrap ((i : Int) + 1) = (i : Int) + 1 := by rw [IntKind.wrap_i64]; omega
  have w2 : (0 : Int) ≤ (i : Int) + 1 := by omega
  have w3 : ((i : Int) + 1).toNat = i + 1 := by omega
  have w4 : (i : Int) ≤ (n : Int) + 1 := by omega
  refine wp_region_fltR (Grow (some g)) (Grow.refl _) (Grow.trans _) (fun _ _ h => h.any) [(0, 0), (0, 1), (0, 2), (0, 3), (0, 4), (0, 5), (0, 6), (0, 7), (3, 8)] (by kernel_rfl) (by kernel_rfl) ?_
  repeat (refine flt_pas (by rfl) (fun K hK => ?_); go_simp; refine hK _ _ (fun w' hw' => (by first | (go_simp; done) | (go_simp; intro hh; cases hh))) ?_; clear hK K)
  refine flt_cpK (by rfl) rfl (.tmp 73) (.tmp 76) _ _ rfl _ _ rfl rfl (HR1.out _ _ _) HG1.out ?_
  (refine flt_norm (fun K hK => ?_); go_simp; refine hK _ ?_; clear hK K)
  refine flt_nil ?_
  go_wp2_with fail
  rw [HR2.out]
  simp only [Result.andThen]
  rw [Oper.upon_value]
  go_wp2
  go_ret
  exact ⟨rfl, HR.out.1, HR.out.2⟩
set_option maxHeartbeats 4000000 in
set_option maxRecDepth 100000 in
/-- in the middle, no room -/
theorem insGrow_any {B n i g g2 : Nat} {vs us : List Value} {w : World} (h : RowK 2 57 B w (some ⟨g, 0, none⟩) n n vs) (h2 : w.heap[g2]? = some (.cells us.toArray 57 (0, 0))) (hul : us.length = 2) (hv1 : ∀ u ∈ vs, u.oneCell' = true) (hu1 : ∀ u ∈ us, u.oneCell' = true) (hi : i < n) (hn : n ≤ 64) (hB : B ≤ w.heap.size) :
    Calls Tryz.prog 120 #[.slice (some ⟨g, 0, none⟩) n n, .int .i64 (i : Int), .slice (some ⟨g2, 0, none⟩) 1 1] w (fun e w' => ∃ A' c', e = .returned (.slice A' (n + 1) c') ∧ RowK 2 57 B w' A' (n + 1) c' (vs.take (i * 2) ++ us ++ vs.drop (i * 2)) ∧ w.grownBy w' (some g)) := by
  have hvl : vs.length = n * 2 := h.len
  have H := Lib.hid h
  have HL := Lib.hid h.lies
  have HKS : (Tryz.prog.info? 57).map (·.size) = some 2 := by
    obtain ⟨i0, hi0, h0, h1, h2⟩ := info_parts elBind.1.2
    rw [hi0]; simp [h1]
  have hdl : (vs.drop (i * 2)).length = (n - i) * 2 := by rw [List.length_drop, hvl]; omega
  have htl : (vs.take (i * 2)).length = i * 2 := by rw [List.length_take, hvl]; omega
  have hg2s : g2 < w.heap.size := (Array.getElem?_eq_some_iff.1 h2).1
  -- the new row
  obtain ⟨G, hG⟩ : ∃ G, G = w.heap.size := ⟨_, rfl⟩
  obtain ⟨C, hC⟩ : ∃ C, C = grownCap w (n + 1) n 57 := ⟨_, rfl⟩
  have hC1 : n + 1 ≤ C := by rw [hC]; exact grownCap_ge _ _ _ _
  have hC2 : C ≤ maxLen := by rw [hC]; exact grownCap_le_maxLen _ _ _ _ (by simp only [maxLen]; omega)
  obtain ⟨cur0, e0⟩ : ∃ cur0, cur0 = (vs.take (i * 2)).toArray ++ Builtin.zeroCells (Value.agg #[.string ByteArray.empty, .slice none 0 0]).cells (n + 1 - i) ++ Builtin.zeroCells (Value.agg #[.string ByteArray.empty, .slice none 0 0]).cells (C - (n + 1)) := ⟨_, rfl⟩
  have em : (n : Int) + 1 - (i : Int) = ((n + 1 - i : Nat) : Int) := by omega
  have hA : ∀ ty, (Builtin.append_ #[44, 3] ty #[.slice (some ⟨g, 0, none⟩) i n, .int .i64 ((n : Int) + 1 - (i : Int))]).run Tryz.prog w = .ok (.slice (some ⟨G, 0, none⟩) (n + 1) C) (w.drew.alloc (.cells cur0 57)) := fun ty => by
    have h5 := run_apZK (P := Tryz.prog) (tn := 3) (m := n + 1 - i) ty elBind Tryz.underlying3 (h.upto (j := i) (by omega) (by omega)) (by omega) (by omega) (by omega) (by omega)
    have h6 : i + (n + 1 - i) = n + 1 := by omega
    rw [h6, ← hC, ← e0, ← hG] at h5
    rw [em]
    exact h5
  have hs0 : cur0.size = C * 2 := by
    have hz : (Value.agg #[.string ByteArray.empty, .slice none 0 0]).cells.size = 2 := rfl
    rw [e0]
    simp only [Array.size_append, List.size_toArray, size_zeroCells, htl, hz]
    omega
  obtain ⟨W0, hW0⟩ : ∃ W0, W0 = w.drew.alloc (.cells cur0 57) := ⟨_, rfl⟩
  have hg0 : W0.heap[G]? = some (.cells cur0 57 (0, 0)) := by rw [hW0, hG]; exact heap_alloc_new w.drew _
  have hold0 : ∀ k, k < G → W0.heap[k]? = w.heap[k]? := fun k hk => by rw [hW0]; exact heap_alloc_old w.drew _ (by show k < w.heap.size; rw [← hG]; exact hk)
  have hgr0 : w.grownBy W0 (some g) := by rw [hW0]; exact ⟨rfl, rfl, rfl, by simp, fun k hk _ => heap_alloc_old w.drew _ hk⟩
  rw [← hW0] at hA
  clear hW0
  obtain ⟨cur1, e1⟩ : ∃ cur1, cur1 = (cur0.toList.take (i * 2) ++ us ++ cur0.toList.drop (i * 2 + us.length)).toArray := ⟨_, rfl⟩
  have hr1 : ∀ ty dc, (Builtin.copy_ #[44, 44] ty #[.slice (some ⟨G, i * 2, none⟩) (n + 1 - i) dc, .slice (some ⟨g2, 0, none⟩) 1 1]).run Tryz.prog W0 = .ok (goInt (Nat.min 1 (n + 1 - i))) (W0.setRow G cur1) := fun ty dc => by
    rw [e1]
    exact run_copy_rowK W0 _ _ ty 57 G (i * 2) (n + 1 - i) dc ⟨g2, 0, none⟩ 1 1 2 cur0 57 us Tryz.underlying44 HKS hg0 (by rw [hul]; simp only [Nat.min_def]; split <;> omega)
      (fun j v hj => by rw [addo, Nat.zero_add, cell_of_row _ _ _ _ _ _ ((hold0 g2 (by omega)).trans h2)]; simpa using hj) (by rw [hul, hs0]; omega) hu1
  have hs1 : cur1.size = C * 2 := by
    rw [e1]
    simp only [List.size_toArray, List.length_append, List.length_take, List.length_drop, Array.length_toList, hs0, hul]
    omega
  obtain ⟨W1, hW1⟩ : ∃ W1, W1 = W0.setRow G cur1 := ⟨_, rfl⟩
  have hg1 : W1.heap[G]? = some (.cells cur1 57 (0, 0)) := by rw [hW1]; exact setRow_heap W0 G cur0 cur1 _ _ hg0
  have hold1 : ∀ k, k < G → W1.heap[k]? = w.heap[k]? := fun k hk => by rw [hW1, setRow_other W0 G k cur1 (by omega)]; exact hold0 k hk
  have hgr1 : W0.grownBy W1 (some G) := by rw [hW1]; exact ⟨rfl, rfl, rfl, by simp, fun k _ hk => setRow_other W0 G k cur1 (fun e => hk (by rw [e]))⟩
  rw [← hW1] at hr1
  clear hW1
  obtain ⟨cur2, e2⟩ : ∃ cur2, cur2 = (cur1.toList.take ((i + 1) * 2) ++ vs.drop (i * 2) ++ cur1.toList.drop ((i + 1) * 2 + (vs.drop (i * 2)).length)).toArray := ⟨_, rfl⟩
  have hr2 : ∀ ty dc sc, (Builtin.copy_ #[44, 44] ty #[.slice (some ⟨G, (i + 1) * 2, none⟩) (n - i) dc, .slice (some ⟨g, i * 2, none⟩) (n - i) sc]).run Tryz.prog W1.drew = .ok (goInt (Nat.min (n - i) (n - i))) (W1.drew.setRow G cur2) := fun ty dc sc => by
    rw [e2]
    exact run_copy_rowK W1.drew _ _ ty 57 G ((i + 1) * 2) (n - i) dc ⟨g, i * 2, none⟩ (n - i) sc 2 cur1 57 (vs.drop (i * 2)) Tryz.underlying44 HKS hg1 (by rw [hdl]; simp only [Nat.min_def]; split <;> omega)
      (fun j v hj => by
        rw [addo]
        rw [List.getElem?_drop] at hj
        have hlt := (List.getElem?_eq_some_iff.1 hj).1
        have h5 := h.cell (i := i * 2 + j) (by omega)
        rw [hj] at h5
        rw [← h5]
        exact World.cell?_of_block (w := w) (hold1 g (by have := HL.out _ rfl; simp only at this; omega))) (by rw [hdl, hs1]; omega) (fun v hv => hv1 v (List.mem_of_mem_drop hv))
  have hs2 : cur2.size = C * 2 := by
    rw [e2]
    simp only [List.size_toArray, List.length_append, List.length_take, List.length_drop, Array.length_toList, hs1, hvl]
    omega
  have hlst : cur2.toList.take ((n + 1) * 2) = vs.take (i * 2) ++ us ++ vs.drop (i * 2) :=
    ins_list2 (c0 := cur0.toList) (c1 := cur1.toList) hvl hul (by omega) (by rw [e0, Array.append_assoc, Array.toList_append]) (by rw [e1]) (by rw [e2])
  have HR : Hid (RowK 2 57 B (W1.drew.setRow G cur2) (some ⟨G, 0, none⟩) (n + 1) C (vs.take (i * 2) ++ us ++ vs.drop (i * 2)) ∧ w.grownBy (W1.drew.setRow G cur2) (some g)) := by
    refine ⟨⟨?_, .inr ⟨G, C, cur2, rfl, by omega, setRow_heap W1.drew G cur1 cur2 _ _ hg1, hC1, hC2, hs2, hlst⟩⟩, ?_⟩
    · rw [← hlst, List.length_take, Array.length_toList, hs2]; omega
    · refine ⟨hgr1.os.trans hgr0.os, hgr1.tape.trans hgr0.tape, hgr1.output.trans hgr0.output, ?_, fun k hk _ => (setRow_other W1.drew G k cur2 (by omega)).trans (hold1 k (by omega))⟩
      have h5 := hgr0.size
      have h6 := hgr1.size
      rw [size_setRow]
      exact Nat.le_trans h5 h6
  have HG : Hid (Grow (some G) W1.drew (W1.drew.setRow G cur2)) := ⟨rfl, rfl, rfl, by simp, fun k _ hk => setRow_other W1.drew G k cur2 (fun e => hk (by rw [e]))⟩
  have HA := Lib.hid hA
  have HR1 := Lib.hid hr1
  have HR2 := Lib.hid hr2
  have hC3 : C ≤ 9223372036854775807 := by unfold maxLen at hC2; omega
  clear hA hr1 hr2 hgr0 hgr1 hg0 hg1 hlst hs0 hs1 hs2 e0 e1 e2 hvl hdl htl hold0 hold1 hC hC2 hg2s hG h h2 hv1 hu1 hul HKS em
  have i1 : (0 : Int) ≤ (i : Int) := by omega
  have i2 : (i : Int) ≤ (n : Int) := by omega
  have i3 : ((i : Int) == (n : Int)) = false := by rw [beq_eq_false_iff_ne]; omega
  have i4 : ¬ ((i : Int) = (n : Int)) := by omega
  have i5 : (n : Int) < (n : Int) + 1 := by omega
  have i6 : (n : Int) + 1 ≤ (C : Int) := by omega
  have i7 : ¬ (C = i + 1) := by omega
  have i8 : ¬ (C = i) := by omega
  have i9 : ¬ (n = i) := by omega
  have i10 : (i : Int) ≤ (n : Int) + 1 := by omega
  have w1 : IntKind.i64.wrap ((i : Int) + 1) = (i : Int) + 1 := by rw [IntKind.wrap_i64]; omega
  have w2 : (0 : Int) ≤ (i : Int) + 1 := by omega
  have w3 : ((i : Int) + 1).toNat = i + 1 := by omega
  have w4 : (i : Int) + 1 ≤ (n : Int) + 1 := by omega
  go_enter Tryz.func120, Tryz.ntmps120
  go_wp2_with (at_builtin; refine wpList_apZ _ rfl (.tmp 34) (.tmp 39) _ _ rfl _ _ rfl rfl (HA.out _) ?_)
  rw [HR1.out]
  simp only [Result.andThen]
  rw [Oper.upon_value]
  go_wp2_with fail
  refine wp_region_fltR (Grow (some G)) (Grow.refl _) (Grow.trans _) (fun _ _ h => h.any) [(0, 0), (0, 1), (0, 2), (0, 3), (0, 4), (0, 5), (0, 6), (0, 7), (3, 8)] (by kernel_rfl) (by kernel_rfl) ?_
  repeat (refine flt_pas (by rfl) (fun K hK => ?_); go_simp; refine hK _ _ (fun w' hw' => (by first | (go_simp; done) | (go_simp; intro hh; cases hh))) ?_; clear hK K)
  refine flt_cpK (by rfl) rfl (.tmp 50) (.tmp 53) _ _ rfl _ _ rfl rfl (HR2.out _ _ _) HG.out ?_
  (refine flt_norm (fun K hK => ?_); go_simp; refine hK _ ?_; clear hK K)
  refine flt_nil ?_
  go_wp2
  go_ret
  exact ⟨_, _, rfl, HR.out.1, HR.out.2⟩
/-- slices.Insert of one binding, anywhere -/
theorem ins_any {B n c i : Nat} {A : Option Addr} {vs us : List Value} {w : World} (h : RowK 2 57 B w A n c vs) (hul : us.length = 2) (hv1 : ∀ u ∈ vs, u.oneCell' = true) (hu1 : ∀ u ∈ us, u.oneCell' = true) (hi : i ≤ n) (hn : n ≤ 64) (hB : B ≤ w.heap.size) :
    Calls Tryz.prog 120 #[.slice A n c, .int .i64 (i : Int), .slice (some ⟨w.heap.size, 0, none⟩) 1 1] (World.alloc w (.cells us.toArray 57)) (fun e w' => ∃ A' c', e = .returned (.slice A' (n + 1) c') ∧ RowK 2 57 B w' A' (n + 1) c' (vs.take (i * 2) ++ us ++ vs.drop (i * 2)) ∧ (World.alloc w (.cells us.toArray 57)).grownBy w' (Value.slice A n c).ownBlock) := by
  have hBs : B ≤ (World.alloc w (.cells us.toArray 57)).heap.size := by simp; omega
  have h' := h.below (belowA w (.cells us.toArray 57))
  have h2 := heap_alloc_new w (.cells us.toArray 57)
  have hvl : vs.length = n * 2 := h.len
  rcases Nat.lt_or_ge i n with hin | hin
  · obtain ⟨g, rfl, hg1, hg2⟩ := h.form (by omega)
    rcases Nat.lt_or_ge c (n + 1) with hc | hc
    · obtain rfl : c = n := by have := h.cap; omega
      refine (insGrow_any h' h2 hul hv1 hu1 hin hn hBs).mono ?_
      rintro e w' ⟨A', c', he, ho, hgr⟩
      exact ⟨A', c', he, ho, hgr⟩
    · refine (insRoom_any h' h2 hul (by omega) hv1 hu1 hin hn hc).mono ?_
      rintro e w' ⟨he, ho, hgr⟩
      exact ⟨_, _, he, ho, hgr⟩
  · obtain rfl : i = n := by omega
    have hr : RdK 2 (World.alloc w (.cells us.toArray 57)) (some ⟨w.heap.size, 0, none⟩) 1 1 us := (RowK.lit (k := 2) (T := 57) (B := 0) w 1 us rfl (by omega) (by omega) (Nat.zero_le _)).rd
    refine (insEnd_any h' hr hu1 (by omega) hBs).mono ?_
    rintro e w' ⟨A', c', he, ho, _, hgr⟩
    refine ⟨A', c', he, ?_, hgr⟩
    rw [List.take_of_length_le (by omega), List.drop_of_length_le (by omega), List.append_nil]
    exact ho
theorem hbv_one (hs : List Hb) : ∀ u ∈ hs.flatMap hbv, u.oneCell' = true := by
  intro u hu
  obtain ⟨h, _, hm⟩ := List.mem_flatMap.1 hu
  simp [hbv] at hm
  rcases hm with rfl | rfl <;> rfl
theorem flat2_take {α : Type} (f : α → List Value) (hf : ∀ x, (f x).length = 2) : ∀ (l : List α) (j : Nat), (l.flatMap f).take (j * 2) = (l.take j).flatMap f
  | [], j => by simp
  | y :: l, 0 => by simp
  | y :: l, j + 1 => by
    rw [List.flatMap_cons, List.take_succ_cons, List.flatMap_cons, List.take_append, hf, List.take_of_length_le (by rw [hf]; omega)]
    congr 1
    rw [← flat2_take f hf l j]
    congr 1
    omega
theorem flat2_drop {α : Type} (f : α → List Value) (hf : ∀ x, (f x).length = 2) : ∀ (l : List α) (j : Nat), (l.flatMap f).drop (j * 2) = (l.drop j).flatMap f
  | [], j => by simp
  | y :: l, 0 => by simp
  | y :: l, j + 1 => by
    rw [List.flatMap_cons, List.drop_succ_cons, ← flat2_drop f hf l j, List.drop_append, hf, List.drop_of_length_le (by rw [hf]; omega), List.nil_append]
    congr 1
    omega
theorem flat2_set {α : Type} (f : α → List Value) (hf : ∀ x, (f x).length = 2) : ∀ (l : List α) (j : Nat) (x : α) (a b : Value), f x = [a, b] → ((l.flatMap f).set (j * 2) a).set (j * 2 + 1) b = (l.set j x).flatMap f
  | [], j, x, a, b, _ => by simp
  | y :: l, 0, x, a, b, hx => by
    have := hf y
    match hy : f y, this with
    | [p, q], _ => simp [List.flatMap_cons, hy, hx]
  | y :: l, j + 1, x, a, b, hx => by
    rw [List.set_cons_succ, List.flatMap_cons, List.flatMap_cons, ← flat2_set f hf l j x a b hx, List.set_append_right _ _ (by rw [hf]; omega), List.set_append_right _ _ (by rw [hf]; omega), hf]
    congr 3
    · omega
    · omega
theorem All2.drop {α β : Type} {P : α → β → Prop} {hs : List α} {rs : List β} (H : All2 P hs rs) (j : Nat) : All2 P (hs.drop j) (rs.drop j) := by
  refine ⟨by rw [List.length_drop, List.length_drop, H.1], fun i h r e1 e2 => ?_⟩
  rw [List.getElem?_drop] at e1 e2
  exact H.2 (j + i) h r e1 e2
theorem All2.app {α β : Type} {P : α → β → Prop} {hs hs2 : List α} {rs rs2 : List β} (H : All2 P hs rs) (H2 : All2 P hs2 rs2) : All2 P (hs ++ hs2) (rs ++ rs2) := by
  refine ⟨by simp [H.1, H2.1], fun i h r e1 e2 => ?_⟩
  by_cases hi : i < hs.length
  · rw [List.getElem?_append_left hi] at e1
    rw [List.getElem?_append_left (by rw [← H.1]; exact hi)] at e2
    exact H.2 i h r e1 e2
  · rw [List.getElem?_append_right (by omega)] at e1
    rw [List.getElem?_append_right (by rw [← H.1]; omega), ← H.1] at e2
    exact H2.2 _ h r e1 e2
theorem All2.one {α β : Type} {P : α → β → Prop} {h : α} {r : β} (hp : P h r) : All2 P [h] [r] := by simpa using All2.nil.snoc hp
theorem All2.set {α β : Type} {P : α → β → Prop} {hs : List α} {rs : List β} {h : α} {r : β} (H : All2 P hs rs) (j : Nat) (hp : P h r) : All2 P (hs.set j h) (rs.set j r) := by
  refine ⟨by simp [H.1], fun i h' r' e1 e2 => ?_⟩
  rw [List.getElem?_set] at e1 e2
  by_cases hij : j = i
  · subst hij
    simp only [if_pos rfl] at e1 e2
    split at e1 <;> split at e2 <;> simp_all
  · rw [if_neg hij] at e1 e2
    exact H.2 i h' r' e1 e2
end Go.Proofs.YtamfhmmcnlollaaGreat
namespace Go.Proofs.YtamfhmmcnlollaaGreat
open Go.RowKit
set_option linter.unusedVariables false
set_option linter.unusedSimpArgs false

/-- where the name stands, or would -/
def PosOf (qs : List Bq) (t : ByteArray) (i : Nat) : Prop := i ≤ qs.length ∧ (∀ k, k < i → bcmp (nat_ (qs.map (·.1)) k) t < 0) ∧ ∀ k, i ≤ k → k < qs.length → 0 ≤ bcmp (nat_ (qs.map (·.1)) k) t
def Found (qs : List Bq) (t : ByteArray) (i : Nat) : Prop := i < qs.length ∧ bcmp (nat_ (qs.map (·.1)) i) t = 0
/-- what put answers -/
def GPut (B L : Nat) (w : World) (A : Option Addr) (n c : Nat) (qs : List Bq) (b : Bq) (e : Ending) (w' : World) : Prop :=
  ∃ i, Hid (PosOf qs b.1 i) ∧ Below B w w' ∧
    ((Hid (Found qs b.1 i) ∧ e = .returned (.tuple #[.slice A n c, .int .i64 0]) ∧ ListO B L w' A n c (qs.set i b)) ∨
     (Hid (¬ Found qs b.1 i) ∧ n = 64 ∧ e = .returned (.tuple #[.slice none 0 0, .int .i64 12])) ∨
     (Hid (¬ Found qs b.1 i) ∧ n < 64 ∧ ∃ A' c', e = .returned (.tuple #[.slice A' (n + 1) c', .int .i64 0]) ∧ ListO B L w' A' (n + 1) c' (qs.take i ++ [b] ++ qs.drop i)))
theorem DjZ.set {zs : List Zq} {z : Zq} (H : DjZ zs) (hz : ∀ y ∈ zs, ∀ k, y.2 k → ¬ z.2 k) (i : Nat) : DjZ (zs.set i z) := by
  unfold DjZ at *
  rw [List.pairwise_iff_getElem] at *
  intro a b ha hb hab k
  rw [List.length_set] at ha hb
  rw [List.getElem_set, List.getElem_set]
  by_cases h1 : i = a <;> by_cases h2 : i = b
  · omega
  · rw [if_pos h1, if_neg h2]
    exact fun e1 e2 => hz _ (List.getElem_mem hb) k e2 e1
  · rw [if_neg h1, if_pos h2]
    exact fun e1 e2 => hz _ (List.getElem_mem ha) k e1 e2
  · rw [if_neg h1, if_neg h2]
    exact H a b ha hb hab k
theorem DjZ.ins {zs : List Zq} {z : Zq} (H : DjZ zs) (hz : ∀ y ∈ zs, ∀ k, y.2 k → ¬ z.2 k) (i : Nat) : DjZ (zs.take i ++ [z] ++ zs.drop i) := by
  have e : zs = zs.take i ++ zs.drop i := (List.take_append_drop i zs).symm
  unfold DjZ at *
  rw [e] at H
  obtain ⟨h1, h2, h3⟩ := List.pairwise_append.1 H
  rw [List.pairwise_append, List.pairwise_append]
  refine ⟨⟨h1, by simp, fun a ha b hb => ?_⟩, h2, fun a ha b hb => ?_⟩
  · simp at hb
    subst hb
    exact hz a (List.mem_of_mem_take ha)
  · rcases List.mem_append.1 ha with ha | ha
    · exact h3 a ha b hb
    · simp at ha
      subst ha
      exact fun k e1 e2 => hz b (List.mem_of_mem_drop hb) k e2 e1
theorem ListZ.put2 {T : Nat → Prop} {B L n c i g U : Nat} {w : World} {qs : List Bq} {t : ByteArray} {s : Sh} {ps : List Cn} (H : ListZ T B L w (some ⟨g, 0, none⟩) n c qs) (hT : ∀ b, T b → b < U) (hi : i < n) (hb : OwnZ B L w (t, s) ((t, ps), fun b => U ≤ b)) :
    ListO B L ((w.setCell ⟨g, i * 2, none⟩ (.string t)).setCell ⟨g, i * 2 + 1, none⟩ (shv s)) (some ⟨g, 0, none⟩) n c (qs.set i (t, ps)) ∧ w.grownBy ((w.setCell ⟨g, i * 2, none⟩ (.string t)).setCell ⟨g, i * 2 + 1, none⟩ (shv s)) (some g) := by
  obtain ⟨hs, zs, h1, h2, h3, h4, h5, h6⟩ := H
  have s1 := World.ownsRow.stored (j := i * 2) (u := .string t) h1
  have s2 := World.ownsRow.stored (j := i * 2 + 1) (u := shv s) s1.1
  have g1 : ∀ h q, OwnZ B L w h q → OwnZ B L ((w.setCell ⟨g, i * 2, none⟩ (.string t)).setCell ⟨g, i * 2 + 1, none⟩ (shv s)) h q := fun h q e => (e.grown h1 s1.2).grown s1.1 s2.2
  refine ⟨⟨hs.set i (t, s), zs.set i ((t, ps), fun b => U ≤ b), ?_, (h2.imp g1).set i (g1 _ _ hb), by rw [List.map_set, h3], h4.set (fun y hy k e1 e2 => ?_) i, fun _ _ _ _ => trivial, fun _ _ => trivial⟩, World.grownBy.trans s1.2 s2.2⟩
  · rw [← flat2_set hbv hbv_len hs i (t, s) (.string t) (shv s) rfl]
    exact s2.1
  · have h7 := hT k (h5 y hy k e1)
    simp only at e2
    omega
set_option maxHeartbeats 8000000 in
set_option maxRecDepth 100000 in
theorem put_any {B L n c n2 c2 : Nat} {A A2 : Option Addr} {qs : List Bq} {t : ByteArray} {rs : List Cf} {w : World} (h : ListO B L w A n c qs) (h2 : PolyI L w (.slice A2 n2 c2) rs) (hp : ∀ r ∈ rs, 0 < r.2.2) (ht : t.size ≤ maxLen) (hm : ∀ i j, i ≤ j → j < n → bcmp (nat_ (qs.map (·.1)) j) t < 0 → bcmp (nat_ (qs.map (·.1)) i) t < 0) (hn : n ≤ 64) (hL1 : 1 ≤ L) (hL : L ≤ 268435456) (hn2 : n2 ≤ 1073741824) (hB : B ≤ w.heap.size) :
    Calls Tryz.prog 62 #[.slice A n c, .agg #[.string t, .slice A2 n2 c2]] w (GPut B L w A n c qs (t, pn rs)) := by
  have H := Lib.hid h.cut
  have HNQ : Hid (n = qs.length) := h.len
  have H2 := Lib.hid h2
  have HP := Lib.hid hp
  have HT := Lib.hid ht
  have HM := Lib.hid hm
  clear h h2 hp ht hm
  go_enter Tryz.func62, Tryz.ntmps62
  have x0 := (Cel.box (i := 1) (v := .slice A2 n2 c2) (t := 57) (b := w.heap.size) w #[.string t, .slice A2 n2 c2] rfl (by simp)).1
  go_wp2_with fail
  refine (eown_any (H2.out.below ((Below.refl _ _).alloc (Nat.le_refl _) (.cells #[.string t, .slice A2 n2 c2] 57))) HP.out hL1 hL hn2).mono ?_
  rintro e w1 ⟨A3, n3, c3, rfl, hpo, hn3, hb1⟩
  clear x0
  obtain ⟨c1a, c1b, c1c⟩ := ((Cel.box (i := 0) (v := .string t) (t := 57) (b := w.heap.size) w #[.string t, .slice A2 n2 c2] rfl (by simp)).below hb1)
  obtain ⟨c2a, c2b, c2c⟩ := ((Cel.box (i := 1) (v := .slice A2 n2 c2) (t := 57) (b := w.heap.size) w #[.string t, .slice A2 n2 c2] rfl (by simp)).below hb1)
  have HBq : Hid (Below w.heap.size w (w1.setCell ⟨w.heap.size, 1, none⟩ (.slice A3 n3 c3))) := ((bt ((Below.refl _ _).alloc (Nat.le_refl _) (.cells #[.string t, .slice A2 n2 c2] 57)) hb1)).setCell (p := ⟨w.heap.size, 1, none⟩) (Nat.le_refl _) _
  have HPq : Hid (PolyO w.heap.size L (w1.setCell ⟨w.heap.size, 1, none⟩ (.slice A3 n3 c3)) (.slice A3 n3 c3) (pn rs)) := (hpo.ex (S := fun b => b = w.heap.size) (Ex.setCell _ _ _ _ rfl) (fun b e => by simp; omega)).mono (by simp)
  have F0 : Hid (Cel (w1.setCell ⟨w.heap.size, 1, none⟩ (.slice A3 n3 c3)) ⟨w.heap.size, 0, none⟩ (.string t)) := ((Cel.box (i := 0) (v := .string t) (t := 57) (b := w.heap.size) w #[.string t, .slice A2 n2 c2] rfl (by simp)).below hb1).set (by simp)
  have F1 : Hid (Cel (w1.setCell ⟨w.heap.size, 1, none⟩ (.slice A3 n3 c3)) ⟨w.heap.size, 1, none⟩ (.slice A3 n3 c3)) := ((Cel.box (i := 1) (v := .slice A2 n2 c2) (t := 57) (b := w.heap.size) w #[.string t, .slice A2 n2 c2] rfl (by simp)).below hb1).put
  go_wp2_with fail
  clear c1a c1b c1c c2a c2b c2c
  generalize hWq : w1.setCell ⟨w.heap.size, 1, none⟩ (.slice A3 n3 c3) = wq at HBq HPq F0 F1 ⊢
  clear hWq hpo hb1
  have HLq := Lib.hid (H.out.below HBq.out)
  have HF := Lib.hid (find_any (t := t) HLq.out.nam (by omega) HM.out)
  refine HF.out.mono ?_
  rintro e w2 ⟨i, rfl, hi, hb2⟩
  have HB2 := Lib.hid hb2
  have HPOS : Hid (PosOf qs t i) := by
    obtain ⟨q1, q2, q3⟩ := hi.out
    exact ⟨by rw [← HNQ.out]; exact q1, q2, fun k hk1 hk2 => q3 k hk1 (by rw [HNQ.out]; exact hk2)⟩
  have hin : i ≤ n := hi.out.1
  have HS2 : Hid (B ≤ w2.heap.size) := by have h1 := HBq.out.size; have h2 := HB2.out.size; show B ≤ _; omega
  have HBW : Hid (Below w.heap.size w w2) := bt HBq.out HB2.out
  have HL2 := Lib.hid (HLq.out.below HB2.out)
  have HP2 : Hid (OwnZ B L w2 (t, (A3, n3, c3)) ((t, pn rs), fun b => w.heap.size ≤ b)) := ⟨rfl, (HPq.out.fresh hB).below HB2.out, HT.out, by show n3 ≤ _; omega⟩
  clear hi hb2 HF
  obtain ⟨x0a, x0b, x0c⟩ := F0.out.below HB2.out
  obtain ⟨x1a, x1b, x1c⟩ := F1.out.below HB2.out
  clear F0 F1 HPq HLq
  by_cases hf : i < n ∧ bcmp (nat_ (qs.map (·.1)) i) t = 0
  · have HFD : Hid (Found qs t i) := ⟨by rw [← HNQ.out]; exact hf.1, hf.2⟩
    have hlt := hf.1
    rw [decide_eq_true hf.1, decide_eq_true hf.2]
    clear hf
    obtain ⟨hs, k1, k2⟩ := HL2.out.old
    obtain ⟨g, eg, hg1, hg2⟩ := k1.form (by omega)
    subst eg
    have HK := Lib.hid k1
    clear k2
    have y0 := k1.cell (i := i * 2) (by omega)
    have y1 := k1.cell (i := i * 2 + 1) (by omega)
    have hl2 : (hs.flatMap hbv).length = n * 2 := k1.len
    rw [List.getElem?_eq_getElem (by omega)] at y0 y1
    have z0 := k1.frozen (i := i * 2)
    have z1 := k1.frozen (i := i * 2 + 1)
    generalize (hs.flatMap hbv)[i * 2] = d0 at y0
    generalize (hs.flatMap hbv)[i * 2 + 1] = d1 at y1
    clear k1 hl2
    have HR := Lib.hid (HL2.out.put2 (fun b hb => hb.2.2) hlt HP2.out)
    have i1 : (0 : Int) ≤ (i : Int) := by omega
    have i2 : (i : Int) < (n : Int) := by omega
    have HFIN : Hid (Below B w ((w2.setCell ⟨g, i * 2, none⟩ (.string t)).setCell ⟨g, i * 2 + 1, none⟩ (.slice A3 n3 c3))) := ((HBW.out.mono hB).setCell (p := ⟨g, i * 2, none⟩) hg1 _).setCell (p := ⟨g, i * 2 + 1, none⟩) hg1 _
    go_wp2
    go_ret2
    exact ⟨i, HPOS, HFIN.out, .inl ⟨HFD, rfl, HR.out.1⟩⟩
  · have HFD : Hid (¬ Found qs t i) := fun hfd => hf ⟨by rw [HNQ.out]; exact hfd.1, hfd.2⟩
    have hd : (decide (i < n) && decide (bcmp (nat_ (qs.map (·.1)) i) t = 0)) = false := by
      rw [Bool.and_eq_false_iff]
      by_cases h1 : i < n
      · right; exact decide_eq_false (fun h2 => hf ⟨h1, h2⟩)
      · left; exact decide_eq_false h1
    rw [hd]
    clear hf hd
    rcases Nat.lt_or_ge n 64 with h64 | h64
    · have d1 : ((n : Int) == 64) = false := by rw [beq_eq_false_iff_ne]; omega
      go_wp2_with fail
      clear x0a x0b x0c x1a x1b x1c
      obtain ⟨hs, zs, k1, k2, k3, k4, k5, _⟩ := HL2.out
      have HK := Lib.hid k1
      have HK2 := Lib.hid k2
      have HK3 := Lib.hid k3
      have HK4 := Lib.hid k4
      have HK5 : Hid (∀ z ∈ zs, ∀ b, z.2 b → b < w.heap.size) := fun z hz b hb => (k5 z hz b hb).2.2
      clear k1 k2 k3 k4 k5
      refine (ins_any (us := [.string t, .slice A3 n3 c3]) HK.out rfl (hbv_one hs) (by simp [Value.oneCell']) hin hn HS2.out).mono ?_
      rintro e w3 ⟨A4, c4, rfl, ho, hg3⟩
      have HR : Hid (ListO B L w3 A4 (n + 1) c4 (qs.take i ++ [(t, pn rs)] ++ qs.drop i) ∧ Below B w w3) := by
        have hrow := HK.out.below (belowA w2 (.cells ([.string t, .slice A3 n3 c3] : List Value).toArray 57))
        have k3 : All2 (OwnZ B L w3) hs zs := HK2.out.imp fun _ _ e => (e.below (belowA _ _)).grown hrow hg3
        have k4 : OwnZ B L w3 (t, (A3, n3, c3)) ((t, pn rs), fun b => w.heap.size ≤ b) := (HP2.out.below (belowA _ _)).grown hrow hg3
        refine ⟨⟨hs.take i ++ [(t, (A3, n3, c3))] ++ hs.drop i, zs.take i ++ [((t, pn rs), fun b => w.heap.size ≤ b)] ++ zs.drop i, ?_, ((k3.take i).app (All2.one k4)).app (k3.drop i), by rw [← HK3.out]; simp [List.map_take, List.map_drop], HK4.out.ins (fun y hy k e1 e2 => by have h7 := HK5.out y hy k e1; simp only at e2; omega) i, fun _ _ _ _ => trivial, fun _ _ => trivial⟩, ?_⟩
        · rw [List.flatMap_append, List.flatMap_append, ← flat2_take hbv hbv_len, ← flat2_drop hbv hbv_len]
          exact ho
        · exact ((HBW.out.mono hB).alloc HS2.out _).grown hg3 (by simp; have := HS2.out; omega) (fun k hk => (World.ownsRow.lt hrow k hk).1)
      clear ho hg3
      go_wp2
      go_ret2
      exact ⟨i, HPOS, HR.out.2, .inr (.inr ⟨HFD, h64, A4, c4, rfl, HR.out.1⟩)⟩
    · have hn64 : n = 64 := by omega
      have d1 : ((n : Int) == 64) = true := by rw [beq_iff_eq]; omega
      have HBB := Lib.hid (HBW.out.mono hB)
      go_wp2
      go_ret2
      exact ⟨i, HPOS, HBB.out, .inr (.inl ⟨HFD, hn64, rfl⟩)⟩
end Go.Proofs.YtamfhmmcnlollaaGreat
namespace Go.Proofs.YtamfhmmcnlollaaGreat
open Go.RowKit
set_option linter.unusedVariables false
set_option linter.unusedSimpArgs false

/-- a binding put into a list that rises -/
def insq : List Bq → Bq → List Bq
  | [], b => [b]
  | q :: qs, b => if bcmp q.1 b.1 < 0 then q :: insq qs b else if bcmp q.1 b.1 = 0 then b :: qs else b :: q :: qs
theorem nat_cons_zero (q : Bq) (qs : List Bq) : nat_ ((q :: qs).map (·.1)) 0 = q.1 := rfl
theorem nat_cons_succ (q : Bq) (qs : List Bq) (k : Nat) : nat_ ((q :: qs).map (·.1)) (k + 1) = nat_ (qs.map (·.1)) k := rfl
theorem insq_pos : ∀ (qs : List Bq) (b : Bq) (i : Nat), PosOf qs b.1 i → (Found qs b.1 i → insq qs b = qs.set i b) ∧ (¬ Found qs b.1 i → insq qs b = qs.take i ++ [b] ++ qs.drop i)
  | [], b, i, h => ⟨fun hf => absurd hf.1 (Nat.not_lt_zero _), fun _ => by
    obtain rfl : i = 0 := by have := h.1; simpa using this
    rfl⟩
  | q :: qs, b, 0, h => by
    have h0 := h.2.2 0 (Nat.le_refl _) (by simp)
    rw [nat_cons_zero] at h0
    unfold insq
    rw [if_neg (by omega)]
    refine ⟨fun hf => ?_, fun hf => ?_⟩
    · have := hf.2
      rw [nat_cons_zero] at this
      rw [if_pos this]; rfl
    · rw [if_neg (fun e => hf ⟨by simp, by rw [nat_cons_zero]; exact e⟩)]
      rfl
  | q :: qs, b, i + 1, h => by
    have h0 := h.2.1 0 (Nat.succ_pos _)
    rw [nat_cons_zero] at h0
    have hp : PosOf qs b.1 i := ⟨by have := h.1; simpa using this, fun k hk => by have := h.2.1 (k + 1) (by omega); rwa [nat_cons_succ] at this, fun k hk1 hk2 => by have := h.2.2 (k + 1) (by omega) (by simpa using hk2); rwa [nat_cons_succ] at this⟩
    have ih := insq_pos qs b i hp
    have hfi : Found (q :: qs) b.1 (i + 1) ↔ Found qs b.1 i := by
      unfold Found
      rw [nat_cons_succ]
      simp
    unfold insq
    rw [if_pos h0, hfi]
    exact ⟨fun hf => by rw [ih.1 hf]; rfl, fun hf => by rw [ih.2 hf]; rfl⟩
/-- the names rise -/
def Rises (qs : List Bq) : Prop := ∀ i j, i < j → j < qs.length → bcmp (nat_ (qs.map (·.1)) i) (nat_ (qs.map (·.1)) j) < 0
theorem rises_mono {qs : List Bq} (h : Rises qs) (t : ByteArray) {i j : Nat} (hij : i ≤ j) (hj : j < qs.length) (hc : bcmp (nat_ (qs.map (·.1)) j) t < 0) : bcmp (nat_ (qs.map (·.1)) i) t < 0 := by
  rcases Nat.lt_or_ge i j with h1 | h1
  · exact bcmp_trans (h i j h1 hj) hc
  · obtain rfl : i = j := by omega
    exact hc
theorem cmpB_anti : ∀ (a b : List UInt8), Lib.compareBytes a b = -Lib.compareBytes b a
  | [], [] => rfl
  | [], _ :: _ => rfl
  | _ :: _, [] => rfl
  | x :: a, y :: b => by
    unfold Lib.compareBytes
    by_cases h : x < y
    · rw [if_pos h, if_neg (fun h2 => UInt8.lt_irrefl _ (UInt8.lt_trans h h2)), if_pos h]
    · rw [if_neg h]
      by_cases h2 : y < x
      · rw [if_pos h2, if_pos h2]; rfl
      · rw [if_neg h2, if_neg h2, if_neg h]
        exact cmpB_anti a b
theorem bcmp_anti (a b : ByteArray) : bcmp a b = -bcmp b a := cmpB_anti _ _
theorem rises_cons {q : Bq} {qs : List Bq} : Rises (q :: qs) ↔ (∀ j, j < qs.length → bcmp q.1 (nat_ (qs.map (·.1)) j) < 0) ∧ Rises qs := by
  constructor
  · intro h
    refine ⟨fun j hj => ?_, fun i j hij hj => ?_⟩
    · have := h 0 (j + 1) (Nat.succ_pos _) (by simpa using hj)
      rwa [nat_cons_zero, nat_cons_succ] at this
    · have := h (i + 1) (j + 1) (by omega) (by simpa using hj)
      rwa [nat_cons_succ, nat_cons_succ] at this
  · rintro ⟨h1, h2⟩ i j hij hj
    rcases j with _ | j
    · omega
    · rcases i with _ | i
      · rw [nat_cons_zero, nat_cons_succ]; exact h1 j (by simpa using hj)
      · rw [nat_cons_succ, nat_cons_succ]; exact h2 i j (by omega) (by simpa using hj)
/-- every name of insq's list is b's or was there -/
theorem insq_names : ∀ (qs : List Bq) (b : Bq) (j : Nat), j < (insq qs b).length → nat_ ((insq qs b).map (·.1)) j = b.1 ∨ ∃ k, k < qs.length ∧ nat_ ((insq qs b).map (·.1)) j = nat_ (qs.map (·.1)) k
  | [], b, j, h => by
    obtain rfl : j = 0 := by simp [insq] at h; exact h
    exact .inl rfl
  | q :: qs, b, j, h => by
    unfold insq at h ⊢
    by_cases h1 : bcmp q.1 b.1 < 0
    · rw [if_pos h1] at h ⊢
      rcases j with _ | j
      · exact .inr ⟨0, by simp, rfl⟩
      · rw [nat_cons_succ]
        rcases insq_names qs b j (by simpa using h) with e | ⟨k, hk, e⟩
        · exact .inl e
        · exact .inr ⟨k + 1, by simpa using hk, by rw [nat_cons_succ]; exact e⟩
    · rw [if_neg h1] at h ⊢
      by_cases h2 : bcmp q.1 b.1 = 0
      · rw [if_pos h2] at h ⊢
        rcases j with _ | j
        · exact .inl rfl
        · exact .inr ⟨j + 1, by simpa using h, by rw [nat_cons_succ, nat_cons_succ]⟩
      · rw [if_neg h2] at h ⊢
        rcases j with _ | j
        · exact .inl rfl
        · exact .inr ⟨j, by simpa using h, by rw [nat_cons_succ]⟩
theorem insq_rises : ∀ (qs : List Bq) (b : Bq), Rises qs → Rises (insq qs b)
  | [], b, _ => fun i j hij hj => by simp [insq] at hj; omega
  | q :: qs, b, h => by
    obtain ⟨h1, h2⟩ := rises_cons.1 h
    unfold insq
    by_cases c1 : bcmp q.1 b.1 < 0
    · rw [if_pos c1]
      refine rises_cons.2 ⟨fun j hj => ?_, insq_rises qs b h2⟩
      rcases insq_names qs b j hj with e | ⟨k, hk, e⟩
      · rw [e]; exact c1
      · rw [e]; exact h1 k hk
    · rw [if_neg c1]
      by_cases c2 : bcmp q.1 b.1 = 0
      · rw [if_pos c2]
        have e : q.1 = b.1 := bcmp_eq.1 c2
        exact rises_cons.2 ⟨fun j hj => by rw [← e]; exact h1 j hj, h2⟩
      · rw [if_neg c2]
        have c3 : bcmp b.1 q.1 < 0 := by have := bcmp_anti b.1 q.1; omega
        refine rises_cons.2 ⟨fun j hj => ?_, h⟩
        rcases j with _ | j
        · rw [nat_cons_zero]; exact c3
        · rw [nat_cons_succ]; exact bcmp_trans c3 (h1 j (by simpa using hj))
theorem insq_len : ∀ (qs : List Bq) (b : Bq), qs.length ≤ (insq qs b).length ∧ (insq qs b).length ≤ qs.length + 1
  | [], b => by simp [insq]
  | q :: qs, b => by
    have := insq_len qs b
    unfold insq
    split
    · simp; omega
    · split <;> simp
def ofq (acc : List Bq) (bs : List Bn) : List Bq := bs.foldl (fun q b => insq q (b.1, pn b.2)) acc
theorem ofq_snoc {bs : List Bn} {i : Nat} {b : Bn} (h : bs[i]? = some b) : ofq [] (bs.take (i + 1)) = insq (ofq [] (bs.take i)) (b.1, pn b.2) := by
  unfold ofq
  rw [take_snoc h, List.foldl_append]
  rfl
theorem ofq_len (bs : List Bn) : ∀ (acc : List Bq), acc.length ≤ (ofq acc bs).length := by
  induction bs with
  | nil => intro acc; exact Nat.le_refl _
  | cons b bs ih => intro acc; exact Nat.le_trans (insq_len acc _).1 (ih _)
theorem ofq_rises (bs : List Bn) : ∀ (acc : List Bq), Rises acc → Rises (ofq acc bs) := by
  induction bs with
  | nil => intro acc h; exact h
  | cons b bs ih => intro acc h; exact ih _ (insq_rises acc _ h)
theorem ofq_take (bs : List Bn) (i : Nat) : (ofq [] (bs.take i)).length ≤ (ofq [] bs).length := by
  have h := ofq_len (bs.drop i) (ofq [] (bs.take i))
  have e : ofq (ofq [] (bs.take i)) (bs.drop i) = ofq [] bs := by
    unfold ofq
    rw [← List.foldl_append, List.take_append_drop]
  rwa [e] at h
/-- the first error -/
def ofc : List Bn → Int
  | [] => 0
  | b :: bs => if rightc b = 0 then ofc bs else rightc b
theorem ofc_all : ∀ {bs : List Bn}, (∀ b ∈ bs, rightc b = 0) → ofc bs = 0
  | [], _ => rfl
  | b :: bs, h => by unfold ofc; rw [if_pos (h b (by simp))]; exact ofc_all fun x hx => h x (by simp [hx])
theorem ofc_at : ∀ {bs : List Bn} {i : Nat} {b : Bn}, bs[i]? = some b → (∀ x ∈ bs.take i, rightc x = 0) → rightc b ≠ 0 → ofc bs = rightc b
  | [], i, b, h, _, _ => by simp at h
  | x :: bs, 0, b, h, _, hb => by
    simp at h; subst h
    unfold ofc; rw [if_neg hb]
  | x :: bs, i + 1, b, h, ha, hb => by
    unfold ofc
    rw [if_pos (ha x (by simp))]
    exact ofc_at (by simpa using h) (fun y hy => ha y (by simp [hy])) hb
/-- what Of answers -/
def GOf (w : World) (L : Nat) (bs : List Bn) (e : Ending) (w' : World) : Prop :=
  Below w.heap.size w w' ∧ ((Hid (ofc bs ≠ 0) ∧ e = .returned (.tuple #[.slice none 0 0, .int .i64 (ofc bs)])) ∨
    (Hid (ofc bs = 0 ∧ 64 < (ofq [] bs).length) ∧ e = .returned (.tuple #[.slice none 0 0, .int .i64 12])) ∨
    (Hid (ofc bs = 0 ∧ (ofq [] bs).length ≤ 64) ∧ ∃ A m c, e = .returned (.tuple #[.slice A m c, .int .i64 0]) ∧ ListO w.heap.size L w' A m c (ofq [] bs)))
set_option maxHeartbeats 8000000 in
set_option maxRecDepth 100000 in
theorem eof_any {A : Option Addr} {n c L : Nat} {bs : List Bn} {w : World} (h : ListI L w (.slice A n c) bs) (hL1 : 1 ≤ L) (hL : L ≤ 268435456) (hn : n ≤ 1073741824) :
    Calls Tryz.prog 18 #[.slice A n c] w (GOf w L bs) := by
  have H := Lib.hid h
  have HNQ : Hid (n = bs.length) := h.len.1
  clear h
  go_enter Tryz.func18, Tryz.ntmps18
  go_wp2
  go_loopw [13] (fun kv wr => ∃ (i : Nat), Hid (Below w.heap.size w wr ∧ ∀ b ∈ bs.take i, rightc b = 0) ∧ i ≤ n ∧ kv = .int .i64 (i : Int)) (fun kv _ => n - (intOf kv).toNat)
  case atStart => exact ⟨0, ⟨Below.refl _ _, by simp⟩, Nat.zero_le _, rfl⟩
  case round =>
    obtain ⟨i, hI, hi, rfl⟩ := hrel
    by_cases hlt : i < n
    · obtain ⟨b, off, A1, n1, c1, r, e, hb, eq, h0, h1, h3, h4, h5⟩ := (H.out.below hI.out.1).at (i := i) (by have := HNQ.out; omega)
      have HQ := Lib.hid eq
      have HP := Lib.hid h3
      have HS := Lib.hid h4
      clear eq h3 h4
      subst e
      have i1 : (0 : Int) ≤ (i : Int) := by omega
      have i2 : (i : Int) < (n : Int) := by omega
      have x0 := h0.1
      have x1 := h1.1
      have C := Lib.hid (right_any (s := r.1) (w := World.alloc wr (.cells #[.string r.1, .slice A1 n1 c1] 57)) (HP.out.below (belowA _ _)) HS.out hL1 hL (by omega))
      clear h0 h1
      by_cases hz : rightc r = 0
      · rw [show rightc (r.1, r.2) = 0 from hz] at C
        go_wp2_with fail
        refine C.out.mono ?_
        rintro e w1 ⟨rfl, hb1⟩
        have HN : Hid (Below w.heap.size w w1 ∧ ∀ b ∈ bs.take (i + 1), rightc b = 0) := by
          refine ⟨bt (bt hI.out.1 (belowA _ _)) hb1, fun b' hm => ?_⟩
          rw [take_snoc HQ.out] at hm
          rcases List.mem_append.1 hm with hm | hm
          · exact hI.out.2 b' hm
          · simp at hm; subst hm; exact hz
        clear hb1 x0 x1
        go_wp2
        go_roundw
        case rel => exact ⟨i + 1, HN, by omega, by go_num⟩
        case measure => simp [intOf]; omega
      · have HC : Hid (ofc bs = rightc r) := ofc_at HQ.out hI.out.2 hz
        have d1 : (rightc r == 0) = false := by rw [beq_eq_false_iff_ne]; exact hz
        have d2 : (rightc r != 0) = true := by simp [bne, d1]
        go_wp2_with fail
        refine C.out.mono ?_
        rintro e w1 ⟨rfl, hb1⟩
        have HB : Hid (Below w.heap.size w w1) := bt (bt hI.out.1 (belowA _ _)) hb1
        clear hb1 x0 x1 C
        have hzz : rightc (r.1, r.2) = rightc r := rfl
        rw [hzz]
        have HZ : Hid (ofc bs ≠ 0) := by rw [HC.out]; exact hz
        clear hz hzz
        generalize rightc r = z at *
        go_wp2
        go_ret2
        exact ⟨HB.out, .inl ⟨HZ, by rw [HC.out]; rfl⟩⟩
    · obtain rfl : i = n := by omega
      have HC0 : Hid (ofc bs = 0) := ofc_all fun b hb => hI.out.2 b (by rw [List.take_of_length_le (by have := HNQ.out; omega)]; exact hb)
      have HAL : Hid (∀ b ∈ bs, rightc b = 0) := fun b hb => hI.out.2 b (by rw [List.take_of_length_le (by have := HNQ.out; omega)]; exact hb)
      have HB0 := Lib.hid hI.out.1
      obtain ⟨wd, rfl⟩ : ∃ wd : World, wd = wr := ⟨_, rfl⟩
      clear hI
      go_wp2
      go_loopw [7, 25] (fun ov kv wr => ∃ (j m : Nat) (A' : Option Addr) (c' : Nat), Hid (Below w.heap.size w wr ∧ ListO w.heap.size L wr A' m c' (ofq [] (bs.take j))) ∧ j ≤ i ∧ m ≤ 64 ∧ ov = .slice A' m c' ∧ kv = .int .i64 (j : Int)) (fun _ kv _ => i - (intOf kv).toNat)
      case atStart => exact ⟨0, 0, none, 0, ⟨HB0.out, by simpa [ofq] using ListO.nil⟩, Nat.zero_le _, Nat.zero_le _, rfl, rfl⟩
      case round =>
        obtain ⟨j, m, A', c', hI, hj, hm, rfl, rfl⟩ := hrel
        by_cases hlt2 : j < i
        · obtain ⟨b, off, A1, n1, c1, r, e, hb, eq, h0, h1, h3, h4, h5⟩ := (H.out.below hI.out.1).at (i := j) (by have := HNQ.out; omega)
          have HQ := Lib.hid eq
          have HP := Lib.hid h3
          have HS := Lib.hid h4
          clear eq h3 h4
          subst e
          have i1 : (0 : Int) ≤ (j : Int) := by omega
          have i2 : (j : Int) < (i : Int) := by omega
          have x0 := h0.1
          have x1 := h1.1
          have hr0 : rightc r = 0 := HAL.out r (List.mem_of_getElem? HQ.out)
          have HRI : Hid (Rises (ofq [] (bs.take j))) := ofq_rises _ _ (fun a b h1 h2 => by simp at h2)
          have HML : Hid (m = (ofq [] (bs.take j)).length) := hI.out.2.len
          have C := Lib.hid (put_any (B := w.heap.size) (t := r.1) (w := World.alloc wr (.cells #[.string r.1, .slice A1 n1 c1] 57)) (hI.out.2.below (belowA _ _)) (HP.out.below (belowA _ _)) (fitc_pos (rightc_zero hr0).2) HS.out (fun a b h1 h2 h3 => rises_mono HRI.out r.1 h1 (by have := HML.out; omega) h3) hm hL1 hL (by omega) (by have := hI.out.1.size; simp; omega))
          have HBA : Hid (Below w.heap.size w (World.alloc wr (.cells #[.string r.1, .slice A1 n1 c1] 57))) := bt hI.out.1 (belowA _ _)
          have HSN : Hid (ofq [] (bs.take (j + 1)) = insq (ofq [] (bs.take j)) (r.1, pn r.2)) := ofq_snoc HQ.out
          clear h0 h1 hr0 hI
          go_wp2_with fail
          refine C.out.mono ?_
          rintro e w1 ⟨p, hpos, hb1, hcase⟩
          have HB : Hid (Below w.heap.size w w1) := HBA.out.trans hb1
          clear hb1 x0 x1 C
          have hip := insq_pos _ (r.1, pn r.2) p hpos.out
          rcases hcase with ⟨hf, rfl, hl⟩ | ⟨hf, h64, rfl⟩ | ⟨hf, h64, A4, c4, rfl, hl⟩
          · have HN : Hid (Below w.heap.size w w1 ∧ ListO w.heap.size L w1 A' m c' (ofq [] (bs.take (j + 1)))) := ⟨HB.out, by rw [HSN.out, hip.1 hf.out]; exact hl⟩
            clear hl hip hf hpos
            go_wp2
            go_roundw
            case rel => exact ⟨j + 1, m, A', c', HN, by omega, hm, rfl, by go_num⟩
            case measure => simp [intOf]; omega
          · have HBIG : Hid (64 < (ofq [] bs).length) := by
              have h6 := ofq_take bs (j + 1)
              have h7 : (ofq [] (bs.take (j + 1))).length = m + 1 := by
                rw [HSN.out, hip.2 hf.out]
                have h8 := hpos.out.1
                have h9 := HML.out
                simp only [List.length_append, List.length_take, List.length_drop, List.length_cons, List.length_nil]
                omega
              show 64 < _
              omega
            clear hip hf hpos
            go_wp2
            go_ret2
            exact ⟨HB.out, .inr (.inl ⟨⟨HC0.out, HBIG.out⟩, rfl⟩)⟩
          · have HN : Hid (Below w.heap.size w w1 ∧ ListO w.heap.size L w1 A4 (m + 1) c4 (ofq [] (bs.take (j + 1)))) := ⟨HB.out, by rw [HSN.out, hip.2 hf.out]; exact hl⟩
            clear hl hip hf hpos
            go_wp2
            go_roundw
            case rel => exact ⟨j + 1, m + 1, A4, c4, HN, by omega, by omega, rfl, by go_num⟩
            case measure => simp [intOf]; omega
        · obtain rfl : j = i := by omega
          have HR : Hid ((ofq [] bs).length ≤ 64 ∧ Below w.heap.size w wr ∧ ListO w.heap.size L wr A' m c' (ofq [] bs)) := by
            have h6 := hI.out.2
            rw [List.take_of_length_le (by have := HNQ.out; omega)] at h6
            exact ⟨by rw [← h6.len]; exact hm, hI.out.1, h6⟩
          clear hI
          go_wp2
          go_ret2
          exact ⟨HR.out.2.1, .inr (.inr ⟨⟨HC0.out, HR.out.1⟩, A', m, c', rfl, HR.out.2.2⟩)⟩
end Go.Proofs.YtamfhmmcnlollaaGreat
namespace Go.Proofs.YtamfhmmcnlollaaGreat
open Go.RowKit
set_option linter.unusedVariables false
set_option linter.unusedSimpArgs false

/-- a list of the document's bindings, in its own form -/
def ListR (B L : Nat) (w : World) (A : Option Addr) (n c : Nat) (qs : List Bq) : Prop := ∃ hs, RowK 2 95 B w A n c (hs.flatMap hbv) ∧ All2 (OwnB B L w) hs qs
theorem OwnB.grownR {B L : Nat} {w w' : World} {h : Hb} {q : Bq} {vs : List Value} {A2 : Option Addr} {n2 c2 : Nat} (H : OwnB B L w h q) (hr : RowK 2 95 B w A2 n2 c2 vs) (hg : w.grownBy w' (Value.slice A2 n2 c2).ownBlock) : OwnB B L w' h q := ⟨H.1, H.2.1.grown hr (by decide) (by decide) hg, H.2.2⟩
theorem ListR.below {B L n c : Nat} {w w' : World} {A : Option Addr} {qs : List Bq} (H : ListR B L w A n c qs) (hb : Below w.heap.size w w') : ListR B L w' A n c qs := by
  obtain ⟨hs, h1, h2⟩ := H
  exact ⟨hs, h1.below hb, h2.imp fun _ _ e => e.below hb⟩
theorem ListR.mono {B B' L n c : Nat} {w : World} {A : Option Addr} {qs : List Bq} (H : ListR B L w A n c qs) (hB : B' ≤ B) : ListR B' L w A n c qs := by
  obtain ⟨hs, h1, h2⟩ := H
  exact ⟨hs, h1.mono hB, h2.imp fun _ _ e => e.mono hB⟩
theorem ListR.len {B L n c : Nat} {w : World} {A : Option Addr} {qs : List Bq} (H : ListR B L w A n c qs) : n = qs.length := by
  obtain ⟨hs, h1, h2⟩ := H
  have := h1.len
  rw [flat2_len hbv hbv_len, h2.1] at this
  omega
def fq (b : Bn) : Bq := (b.1, pn b.2)
def RI (w : World) (L : Nat) (bs : List Bn) (i : Nat) (A' : Option Addr) (c' : Nat) (wr : World) : Prop :=
  (∃ hs : List Hb, RowK 2 95 w.heap.size wr A' i c' (hs.flatMap hbv) ∧ All2 (OwnB w.heap.size L wr) hs ((bs.take i).map fq)) ∧ Below w.heap.size w wr
theorem RI.below {w wr w' : World} {L i c' : Nat} {bs : List Bn} {A' : Option Addr} (h : RI w L bs i A' c' wr) (hb : Below wr.heap.size wr w') : RI w L bs i A' c' w' := by
  obtain ⟨⟨hs, h1, h2⟩, h4⟩ := h
  exact ⟨⟨hs, h1.below hb, h2.imp fun _ _ e => e.below hb⟩, bt h4 hb⟩
theorem RI.grown {w w' : World} {L i c2 : Nat} {bs : List Bn} {A2 : Option Addr} {hs : List Hb} {h : Hb} {r : Bn} (ho : RowK 2 95 w.heap.size w' A2 (i + 1) c2 (hs.flatMap hbv ++ hbv h)) (h2 : All2 (OwnB w.heap.size L w') hs ((bs.take i).map fq)) (hc : OwnB w.heap.size L w' h (fq r)) (hr : bs[i]? = some r) (hb : Below w.heap.size w w') : RI w L bs (i + 1) A2 c2 w' := by
  refine ⟨⟨hs ++ [h], by simpa using ho, ?_⟩, hb⟩
  rw [take_snoc hr, List.map_append]
  exact h2.snoc hc
set_option maxHeartbeats 4000000 in
theorem rform_any {A : Option Addr} {n c L : Nat} {bs : List Bn} {w : World} (h : ListI L w (.slice A n c) bs) (hp : ∀ b ∈ bs, ∀ r ∈ b.2, 0 < r.2.2) (hL1 : 1 ≤ L) (hL : L ≤ 268435456) (hn : n ≤ 1073741824) :
    Calls Tryz.prog 65 #[.slice A n c] w (fun e w' => ∃ A' c', e = .returned (.slice A' n c') ∧ ListR w.heap.size L w' A' n c' (bs.map fq) ∧ Below w.heap.size w w') := by
  have H := Lib.hid h
  have HNQ : Hid (n = bs.length) := h.len.1
  have HPP := Lib.hid hp
  clear h hp
  have HEL := Lib.hid elBindR
  go_enter Tryz.func65, Tryz.ntmps65
  go_wp2
  go_loopw [3, 9] (fun ov kv wr => ∃ (i : Nat) (A' : Option Addr) (c' : Nat), Hid (RI w L bs i A' c' wr) ∧ i ≤ n ∧ ov = .slice A' i c' ∧ kv = .int .i64 (i : Int)) (fun _ kv _ => n - (intOf kv).toNat)
  case atStart => exact ⟨0, _, _, ⟨⟨[], by have := RowK.lit (k := 2) (T := 95) (B := w.heap.size) w 0 [] rfl rfl (by omega) (Nat.le_refl _); simpa using this, by simpa using All2.nil⟩, belowA _ _⟩, Nat.zero_le _, rfl, rfl⟩
  case round =>
    obtain ⟨i, A', c', hI, hi, rfl, rfl⟩ := hrel
    by_cases hlt : i < n
    · obtain ⟨b, off, A1, n1, c1, r, e, hb, eq, h0, h1, h3, h4, h5⟩ := (H.out.below hI.out.2).at (i := i) (by have := HNQ.out; omega)
      have HQ := Lib.hid eq
      have HP := Lib.hid h3
      have HS := Lib.hid h4
      clear eq h3 h4
      subst e
      have i1 : (0 : Int) ≤ (i : Int) := by omega
      have i2 : (i : Int) < (n : Int) := by omega
      have x0 := h0.1
      have x1 := h1.1
      have HW0 : Hid (w.heap.size ≤ wr.heap.size) := hI.out.2.size
      have hrow : Hid (some wr.heap.size ≠ (Value.slice A' i c').ownBlock) := fun e => by
        obtain ⟨⟨hs, k1, _⟩, _⟩ := hI.out
        have := World.ownsRow.lt k1 _ e.symm
        omega
      have e0 : (World.alloc wr (.cells #[.string r.1, .slice A1 n1 c1] 95)).cell? ⟨wr.heap.size, 0, none⟩ = some (.string r.1) := (At.box (i := 0) _ _ rfl).1
      have e1 : (World.alloc wr (.cells #[.string r.1, .slice A1 n1 c1] 95)).cell? ⟨wr.heap.size, 1, none⟩ = some (.slice A1 n1 c1) := (At.box (i := 1) _ _ rfl).1
      have k0 := cell_gr e0 hrow.out
      have k1 := cell_gr e1 hrow.out
      go_wp2_with fail
      clear h0 h1 x0 x1
      refine wp_region_fltR (Grow (Value.slice A' i c').ownBlock) (Grow.refl _) (Grow.trans _) (fun _ _ h => h.any) [(0, 0), (0, 1), (0, 2), (0, 3), (0, 4), (3, 5), (0, 6), (3, 7), (3, 8), (0, 9)] (by kernel_rfl) (by kernel_rfl) ?_
      repeat (refine flt_pas (by rfl) (fun K hK => ?_); go_simp; refine hK _ _ (fun w' hw' => (by first | (go_simp; done) | (go_simp; intro hh; cases hh))) ?_; clear hK K)
      (refine flt_callX (by rfl) (fun K hK => ?_); go_simp; refine hK _ _ ?_; clear hK K)
      refine (form10_any (HP.out.below (belowA _ _).drew) (HPP.out r (List.mem_of_getElem? HQ.out)) hL1 hL (by omega)).mono ?_
      rintro e w1 ⟨v, rfl, hpw, hb1⟩
      obtain ⟨B1, m1, d1, hs0, rfl, q1, q2, q3⟩ := id hpw
      have hm1 : m1 ≤ 1073741824 := by rw [q2]; have h7 := HP.out.len; have h8 := pn_len r.2; omega
      clear q1 q2 q3
      refine ⟨_, rfl, Grow.of_below hb1, ?_⟩
      (refine flt_norm (fun K hK => ?_); go_simp; refine hK _ ?_; clear hK K)
      repeat (refine flt_pas (by rfl) (fun K hK => ?_); go_simp; refine hK _ _ (fun w' hw' => (by first | (go_simp; done) | (go_simp; intro hh; cases hh))) ?_; clear hK K)
      clear k0 k1 e0 e1
      have HB : Hid (Below w.heap.size w w1) := bt (bt hI.out.2 (belowA _ _).drew) hb1
      have HS2 : Hid (w.heap.size ≤ (World.drew (World.alloc wr (.cells #[.string r.1, .slice A1 n1 c1] 95))).heap.size) := by
        have h2 := HW0.out
        have h3 : wr.heap.size + 1 = (World.drew (World.alloc wr (.cells #[.string r.1, .slice A1 n1 c1] 95))).heap.size := by simp
        show _ ≤ _
        omega
      have HCR : Hid (OwnB w.heap.size L w1 (r.1, (B1, m1, d1)) (fq r)) := ⟨rfl, hpw.mono HS2.out, HS.out, hm1⟩
      obtain ⟨⟨hs', p1, p2⟩, p3⟩ := (hI.out.below (belowA _ _).drew).below hb1
      have HK := Lib.hid p1
      have HK2 := Lib.hid p2
      have HZ : Hid (w.heap.size ≤ w1.heap.size) := HB.out.size
      clear p1 p2 p3 hb1 hpw
      (refine flt_actX (by rfl) (fun K hK => ?_); go_simp)
      refine hK _ _ ⟨Grow.of_below (belowA _ _), ?_⟩
      clear hK K
      (refine flt_norm (fun K hK => ?_); go_simp; refine hK _ ?_; clear hK K)
      refine flt_appK (.tmp 13) (.tmp 20) (by rfl) rfl rfl HEL.out (B := w.heap.size) (us := [.string r.1, .slice B1 m1 d1]) rfl rfl (HK.out.below (belowA _ _)) (RowK.lit (k := 2) (T := 95) (B := 0) w1 1 [.string r.1, .slice B1 m1 d1] (by simp) rfl (by omega) (Nat.zero_le _)).rd (by simp [Value.oneCell']) (by omega) (by omega) (by have := HZ.out; simp; omega) (fun w' _ h => h) (fun A4 c4 w4 ho hb4 hg4 => ?_)
      have HN : Hid (RI w L bs (i + 1) A4 c4 w4) := RI.grown (hs := hs') (h := (r.1, (B1, m1, d1))) ho (HK2.out.imp fun _ _ e => (e.below (belowA _ _)).grownR (HK.out.below (belowA _ _)) hg4) ((HCR.out.below (belowA _ _)).grownR (HK.out.below (belowA _ _)) hg4) HQ.out ((HB.out.alloc HB.out.size _).trans hb4)
      clear ho hb4 hg4
      (refine flt_norm (fun K hK => ?_); go_simp; refine hK _ ?_; clear hK K)
      repeat (refine flt_pas (by rfl) (fun K hK => ?_); go_simp; refine hK _ _ (fun w' hw' => (by first | (go_simp; done) | (go_simp; intro hh; cases hh))) ?_; clear hK K)
      refine flt_nil ?_
      go_wp2
      go_roundw
      case rel => exact ⟨i + 1, A4, c4, HN, by omega, rfl, by go_num⟩
      case measure => simp [intOf]; omega
    · obtain rfl : i = n := by omega
      obtain ⟨⟨hs, k1, k2⟩, k3⟩ := hI.out
      rw [List.take_of_length_le (by have := HNQ.out; omega)] at k2
      have HR : Hid (ListR w.heap.size L wr A' i c' (bs.map fq) ∧ Below w.heap.size w wr) := ⟨⟨hs, k1, k2⟩, k3⟩
      clear k1 k2 k3 hI
      go_wp2
      go_ret
      exact ⟨A', c', rfl, HR.out.1, HR.out.2⟩
end Go.Proofs.YtamfhmmcnlollaaGreat
namespace Go.Proofs.YtamfhmmcnlollaaGreat
open Go.RowKit
set_option linter.unusedVariables false
set_option linter.unusedSimpArgs false

theorem pos_ex (f : Nat → Int) : ∀ n, ∃ p, p ≤ n ∧ (∀ k, k < p → f k < 0) ∧ (p < n → 0 ≤ f p)
  | 0 => ⟨0, Nat.le_refl _, fun k hk => absurd hk (Nat.not_lt_zero k), fun h => absurd h (Nat.lt_irrefl 0)⟩
  | n + 1 => by
    obtain ⟨p, h1, h2, h3⟩ := pos_ex f n
    rcases Nat.lt_or_ge p n with h | h
    · exact ⟨p, by omega, h2, fun _ => h3 h⟩
    · obtain rfl : p = n := by omega
      by_cases hf : f p < 0
      · exact ⟨p + 1, Nat.le_refl _, fun k hk => by
          rcases Nat.lt_or_ge k p with hk2 | hk2
          · exact h2 k hk2
          · obtain rfl : k = p := by omega
            exact hf, fun h => absurd h (Nat.lt_irrefl _)⟩
      · exact ⟨p, by omega, h2, fun _ => by omega⟩
theorem posOf_ex {qs : List Bq} (h : Rises qs) (t : ByteArray) : ∃ p, PosOf qs t p := by
  obtain ⟨p, h1, h2, h3⟩ := pos_ex (fun k => bcmp (nat_ (qs.map (·.1)) k) t) qs.length
  refine ⟨p, h1, h2, fun k hk1 hk2 => Int.not_lt.1 fun hlt => ?_⟩
  have h4 := rises_mono h t hk1 hk2 hlt
  have h5 := h3 (by omega)
  omega
/-- what set has after k bindings -/
def outk (qs : List Bq) (b : Bq) (p q0 k : Nat) : List Bq := if k ≤ p then qs.take k else qs.take p ++ [b] ++ (qs.take k).drop q0
/-- a list of the document's bindings: the row since block B2, what it holds since block B -/
def ListS (B B2 L : Nat) (w : World) (A : Option Addr) (n c : Nat) (qs : List Bq) : Prop := ∃ hs, RowK 2 95 B2 w A n c (hs.flatMap hbv) ∧ All2 (OwnB B L w) hs qs
theorem ListS.below {B B2 L n c : Nat} {w w' : World} {A : Option Addr} {qs : List Bq} (H : ListS B B2 L w A n c qs) (hb : Below w.heap.size w w') : ListS B B2 L w' A n c qs := by
  obtain ⟨hs, h1, h2⟩ := H
  exact ⟨hs, h1.below hb, h2.imp fun _ _ e => e.below hb⟩
theorem ListS.len {B B2 L n c : Nat} {w : World} {A : Option Addr} {qs : List Bq} (H : ListS B B2 L w A n c qs) : n = qs.length := by
  obtain ⟨hs, h1, h2⟩ := H
  have := h1.len
  rw [flat2_len hbv hbv_len, h2.1] at this
  omega
/-- append of one binding to the document's list, at the operation -/
theorem wpList_appR26 {B B2 L n c c2 : Nat} {w : World} {A A2 : Option Addr} (h : Hb) {q : Bq} {qs : List Bq} {ops : Array Oper} {rest : List Oper} {o : Oper} {a : Act} {Q : Exit → Act → World → Prop} (hgd : o.guard = none) (s x : Operand)
    (ho : o.op = .call { callee := .builtin .append, args := #[s, x], argTypes := #[51, 51] })
    (hs : a.eval s = .slice A n c) (hx : a.eval x = .slice A2 1 c2) (H : ListS B B2 L w A n c qs) (hr : RdK 2 w A2 1 c2 (hbv h)) (hb : OwnB B L w h q) (hn : n ≤ 1099511627775) (hB2 : B ≤ B2) (hB : B2 ≤ w.heap.size)
    (hk : ∀ A' c' w', ListS B B2 L w' A' (n + 1) c' (qs ++ [q]) → Below B2 w w' → w.grownBy w' (Value.slice A n c).ownBlock → wpList Tryz.prog ops Q rest (a.put o.dst (.slice A' (n + 1) c')) w') : wpList Tryz.prog ops Q (o :: rest) a w := by
  obtain ⟨hs', h1, h2⟩ := H
  refine wpList_appK hgd s x ho elBindR hs hx h1 hr (by intro u hu; simp [hbv] at hu; rcases hu with rfl | rfl <;> rfl) (by omega) (by omega) hB ?_
  intro A' c' w' ho' hb' hg
  exact hk A' c' w' ⟨hs' ++ [h], by simpa using ho', (h2.imp fun _ _ e => e.grownR (h1.mono hB2) hg).snoc (hb.grownR (h1.mono hB2) hg)⟩ hb' hg
theorem list_eq_b {a b : ByteArray} : (a.toList == b.toList) = decide (a = b) := by
  by_cases h : a = b
  · subst h; simp
  · rw [decide_eq_false h, beq_eq_false_iff_ne]
    intro e
    apply h
    rw [ba_list, ba_list] at e
    obtain ⟨⟨la⟩⟩ := a
    obtain ⟨⟨lb⟩⟩ := b
    simp at e
    subst e; rfl
theorem outk_step {qs : List Bq} {b x : Bq} {p q0 k : Nat} (hx : qs[k]? = some x) (hq : p ≤ q0 ∧ q0 ≤ p + 1) (hk : k < p ∨ q0 ≤ k ∧ p < k) : outk qs b p q0 (k + 1) = outk qs b p q0 k ++ [x] := by
  have hlt := (List.getElem?_eq_some_iff.1 hx).1
  unfold outk
  rcases hk with h | h
  · rw [if_pos (by omega), if_pos (by omega), take_snoc hx]
  · rw [if_neg (by omega), if_neg (by omega), take_snoc hx, List.drop_append_of_le_length (by rw [List.length_take]; omega), ← List.append_assoc]
theorem nat_eq {qs : List Bq} {k : Nat} {x : Bq} (h : qs[k]? = some x) : nat_ (qs.map (·.1)) k = x.1 := by unfold nat_; rw [List.getElem?_map, h]; rfl
theorem insq_out {qs : List Bq} {t : ByteArray} {ps : List Cn} {p : Nat} (hp : PosOf qs t p) (hf : p < qs.length) : insq qs (t, ps) = qs.take p ++ [(t, ps)] ++ qs.drop (if nat_ (qs.map (·.1)) p = t then p + 1 else p) := by
  have h := insq_pos qs (t, ps) p hp
  by_cases he : nat_ (qs.map (·.1)) p = t
  · rw [if_pos he, h.1 ⟨hf, bcmp_eq.2 he⟩, List.set_eq_take_append_cons_drop, if_pos hf]
    simp
  · rw [if_neg he, h.2 (fun e => he (bcmp_eq.1 e.2))]
set_option maxHeartbeats 8000000 in
set_option maxRecDepth 100000 in
theorem rset_any {B L n c n2 c2 : Nat} {A A2 : Option Addr} {qs : List Bq} {t : ByteArray} {ps : List Cn} {w : World} (h : ListR B L w A n c qs) (hr : Rises qs) (hb : OwnB B L w (t, (A2, n2, c2)) (t, ps)) (hn : n ≤ 1073741824) (hB : B ≤ w.heap.size) :
    Calls Tryz.prog 66 #[.slice A n c, .agg #[.string t, .slice A2 n2 c2]] w (fun e w' => ∃ A' m c', e = .returned (.slice A' m c') ∧ ListR B L w' A' m c' (insq qs (t, ps)) ∧ Below w.heap.size w w') := by
  obtain ⟨p, hp⟩ := posOf_ex hr t
  have H := Lib.hid h
  have HNQ : Hid (n = qs.length) := h.len
  have HBB := Lib.hid hb
  have HP := Lib.hid hp
  have HR := Lib.hid hr
  obtain ⟨q0, hq0⟩ : ∃ q0, q0 = if nat_ (qs.map (·.1)) p = t then p + 1 else p := ⟨_, rfl⟩
  have hq01 : p ≤ q0 ∧ q0 ≤ p + 1 := by rw [hq0]; split <;> omega
  have HQ0 := Lib.hid hq0
  have hpn : p ≤ n := by rw [HNQ.out]; exact hp.1
  clear h hr hb hp hq0
  have HW : Hid (Below w.heap.size w (World.alloc w (.cells #[.string t, .slice A2 n2 c2] 95))) := belowA _ _
  have HT0 : Hid (At (World.alloc w (.cells #[.string t, .slice A2 n2 c2] 95)) ⟨w.heap.size, 0, none⟩ (.string t)) := At.box (i := 0) _ _ rfl
  have HT1 : Hid (At (World.alloc w (.cells #[.string t, .slice A2 n2 c2] 95)) ⟨w.heap.size, 1, none⟩ (.slice A2 n2 c2)) := At.box (i := 1) _ _ rfl
  obtain ⟨w0, hw0⟩ : ∃ w0, w0 = World.alloc w (.cells #[.string t, .slice A2 n2 c2] 95) := ⟨_, rfl⟩
  have hS0 : Hid (w0.heap.size = w.heap.size + 1) := by rw [hw0]; show _ = _; simp
  rw [← hw0] at HW HT0 HT1
  go_enter Tryz.func66, Tryz.ntmps66
  go_wp2_with fail
  rw [← hw0]
  clear hw0
  go_wp2
  have HS1 : Hid (B ≤ w0.heap.size) := by have := hS0.out; show B ≤ _; omega
  go_loopw [5, 6, 12] (fun ov dv kv wr => ∃ (k m : Nat) (A' : Option Addr) (c' : Nat), Hid (Below w0.heap.size w0 wr ∧ ListS B w0.heap.size L wr A' m c' (outk qs (t, ps) p q0 k)) ∧ k ≤ n ∧ m ≤ k + 1 ∧ ov = .slice A' m c' ∧ dv = .bool (decide (p < k)) ∧ kv = .int .i64 (k : Int)) (fun _ _ kv _ => n - (intOf kv).toNat)
  case atStart => exact ⟨0, 0, _, _, ⟨belowA _ _, [], by have := RowK.lit (k := 2) (T := 95) (B := w0.heap.size) (b := w.heap.size + 1) w0 0 [] hS0.out.symm rfl (by omega) (Nat.le_refl _); simpa using this, by simpa [outk] using All2.nil⟩, Nat.zero_le _, Nat.zero_le _, rfl, by simp, rfl⟩
  case round =>
    obtain ⟨k, m, A', c', hI, hk, hm, rfl, rfl, rfl⟩ := hrel
    by_cases hlt : k < n
    · obtain ⟨x, ex⟩ : ∃ x, qs[k]? = some x := ⟨_, List.getElem?_eq_getElem (by have := HNQ.out; omega)⟩
      have hnx : nat_ (qs.map (·.1)) k = x.1 := by unfold nat_; rw [List.getElem?_map, ex]; rfl
      have HX : Hid (∃ (hs : List Hb) (hd : Hb), RdK 2 wr A n c (hs.flatMap hbv) ∧ hs[k]? = some hd ∧ OwnB B L wr hd x) := by
        obtain ⟨hs, k1, k2⟩ := (H.out.below HW.out).below hI.out.1
        obtain ⟨hd, x', e1, e2, e3⟩ := k2.at (i := k) (by have := HNQ.out; omega)
        have : x = x' := by have := ex.symm.trans e2; injection this
        subst this
        exact ⟨hs, hd, k1.rd, e1, e3⟩
      obtain ⟨hs, hd, k1, k2, k3⟩ := HX.out
      obtain ⟨b, off, e, hbl, g0, g1⟩ := k1.at2 k2
      subst e
      obtain ⟨nm0, A1, n1, c1⟩ := hd
      have hnm0 : nm0 = x.1 := k3.1
      subst hnm0
      have HO := Lib.hid k3
      have HXE := Lib.hid ex
      have x0 := g0.1
      have x1 := g1.1
      simp only [shv] at x1
      have t0 := ((HT0.out.below hI.out.1).below (belowA wr (.cells #[.string x.1, .slice A1 n1 c1] 95))).1
      have t1 := ((HT1.out.below hI.out.1).below (belowA wr (.cells #[.string x.1, .slice A1 n1 c1] 95))).1
      have i1 : (0 : Int) ≤ (k : Int) := by omega
      have i2 : (k : Int) < (n : Int) := by omega
      have HZ : Hid (w0.heap.size ≤ wr.heap.size) := hI.out.1.size
      clear HX k1 k2 k3 g0 g1 ex
      rcases Nat.lt_trichotomy k p with hkp | hkp | hkp
      · have hc : bcmp x.1 t < 0 := by rw [← hnx]; exact HP.out.2.1 k hkp
        have d1 : decide (p < k) = false := decide_eq_false (by omega)
        have d2 : Op.bytesLess x.1.toList t.toList = true := by rw [bcmp_lt, decide_eq_true hc]
        have d3 : (x.1.toList == t.toList) = false := by rw [list_eq_b, decide_eq_false (fun e => by rw [bcmp_eq.2 e] at hc; omega)]
        have HST : Hid (outk qs (t, ps) p q0 (k + 1) = outk qs (t, ps) p q0 k ++ [x]) := outk_step HXE.out hq01 (.inl hkp)
        have d4 : decide (p < k + 1) = false := decide_eq_false (by omega)
        clear hc hnx
        rw [d1]
        go_wp2_with (at_builtin; (refine wpList_appR26 (x.1, (A1, n1, c1)) rfl (.tmp 34) (.tmp 36) rfl rfl rfl ((hI.out.2.below (belowA _ _)).below (belowA _ _)) (RowK.lit (k := 2) (T := 95) (B := 0) (World.alloc wr (.cells #[.string x.1, .slice A1 n1 c1] 95)) 1 [.string x.1, .slice A1 n1 c1] (by simp) rfl (by omega) (Nat.zero_le _)).rd ((HO.out.below (belowA _ _)).below (belowA _ _)) (by omega) HS1.out (by have := HZ.out; simp; omega) ?_); intro A4 c4 w4 hl4 hb4 _; have HN : Hid (Below w0.heap.size w0 w4 ∧ ListS B w0.heap.size L w4 A4 (m + 1) c4 (outk qs (t, ps) p q0 (k + 1))) := ⟨((hI.out.1.alloc HZ.out _).alloc (by have := HZ.out; simp; omega) _).trans hb4, (by rw [HST.out]; exact hl4)⟩; clear hl4 hb4)
        go_roundw
        case rel => exact ⟨k + 1, m + 1, A4, c4, HN, by omega, by omega, rfl, by rw [d4], by go_num⟩
        case measure => simp [intOf]; omega
      · subst hkp
        have hc : 0 ≤ bcmp x.1 t := by rw [← hnx]; exact HP.out.2.2 k (Nat.le_refl _) (by have := HNQ.out; omega)
        have d1 : decide (k < k) = false := decide_eq_false (Nat.lt_irrefl _)
        have d2 : Op.bytesLess x.1.toList t.toList = false := by rw [bcmp_lt, decide_eq_false (by omega)]
        have d4 : decide (k < k + 1) = true := decide_eq_true (by omega)
        have hrow : Hid (some wr.heap.size ≠ (Value.slice A' m c').ownBlock) := fun e => by
          obtain ⟨hs2, k1, _⟩ := hI.out.2
          have := World.ownsRow.lt k1 _ e.symm
          omega
        have HBX : Hid (OwnB B L wr (t, (A2, n2, c2)) (t, ps)) := (HBB.out.below HW.out).below hI.out.1
        have HO0 : Hid (outk qs (t, ps) k q0 k = qs.take k) := by unfold outk; rw [if_pos (Nat.le_refl _)]; rfl
        have hmk : m ≤ k := by
          have h5 := hI.out.2.len
          rw [HO0.out, List.length_take] at h5
          omega
        have e0 : (World.alloc wr (.cells #[.string x.1, .slice A1 n1 c1] 95)).cell? ⟨wr.heap.size, 0, none⟩ = some (.string x.1) := (At.box (i := 0) _ _ rfl).1
        have e1 : (World.alloc wr (.cells #[.string x.1, .slice A1 n1 c1] 95)).cell? ⟨wr.heap.size, 1, none⟩ = some (.slice A1 n1 c1) := (At.box (i := 1) _ _ rfl).1
        have HE := Lib.hid (And.intro e0 e1)
        clear e0 e1 hc hnx
        rw [d1]
        by_cases he : x.1 = t
        · have HST : Hid (outk qs (t, ps) k q0 (k + 1) = outk qs (t, ps) k q0 k ++ [(t, ps)]) := by
            show _ = _
            rw [HO0.out]
            unfold outk
            have hq : q0 = k + 1 := by rw [HQ0.out, if_pos (by rw [nat_eq HXE.out]; exact he)]
            rw [if_neg (by omega), hq, List.drop_of_length_le (by rw [List.length_take]; omega), List.append_nil]
          have d3 : (x.1.toList == t.toList) = true := by rw [list_eq_b, decide_eq_true he]
          clear he
          go_wp2_with (at_builtin; (refine wpList_appR26 (t, (A2, n2, c2)) rfl (.tmp 25) (.tmp 27) rfl rfl rfl ((hI.out.2.below (belowA _ _)).below (belowA _ _)) (RowK.lit (k := 2) (T := 95) (B := 0) (World.alloc wr (.cells #[.string x.1, .slice A1 n1 c1] 95)) 1 [.string t, .slice A2 n2 c2] (by simp) rfl (by omega) (Nat.zero_le _)).rd ((HBX.out.below (belowA _ _)).below (belowA _ _)) (by omega) HS1.out (by have := HZ.out; simp; omega) ?_); intro A4 c4 w4 hl4 hb4 hg4; have HB4 : Hid (Below w0.heap.size w0 w4) := ((hI.out.1.alloc HZ.out _).alloc (by have := HZ.out; simp; omega) _).trans hb4; have HL4 := Lib.hid hl4; have HO4 : Hid (OwnB B L w4 (x.1, (A1, n1, c1)) x) := (by obtain ⟨hs2, k1, _⟩ := (hI.out.2.below (belowA wr (.cells #[.string x.1, .slice A1 n1 c1] 95))).below (belowA _ (.cells ([.string t, .slice A2 n2 c2] : List Value).toArray 95)); exact ((HO.out.below (belowA _ _)).below (belowA _ _)).grownR (k1.mono HS1.out) hg4); have y0 : w4.cell? ⟨wr.heap.size, 0, none⟩ = some (.string x.1) := hg4.cell ((belowA _ _).cell (p := ⟨wr.heap.size, 0, none⟩) (by simp) |>.trans HE.out.1) hrow.out; have y1 : w4.cell? ⟨wr.heap.size, 1, none⟩ = some (.slice A1 n1 c1) := hg4.cell ((belowA _ _).cell (p := ⟨wr.heap.size, 1, none⟩) (by simp) |>.trans HE.out.2) hrow.out; have z0 := (HT0.out.below HB4.out).1; have z1 := (HT1.out.below HB4.out).1; clear hl4 hb4 hg4)
          have HN : Hid (Below w0.heap.size w0 w4 ∧ ListS B w0.heap.size L w4 A4 (m + 1) c4 (outk qs (t, ps) k q0 (k + 1))) := ⟨HB4.out, by rw [HST.out]; exact HL4.out⟩
          go_roundw
          case rel => exact ⟨k + 1, m + 1, A4, c4, HN, by omega, by omega, rfl, by rw [d4], by go_num⟩
          case measure => simp [intOf]; omega
        · have HST : Hid (outk qs (t, ps) k q0 (k + 1) = outk qs (t, ps) k q0 k ++ [(t, ps)] ++ [x]) := by
            show _ = _
            rw [HO0.out]
            unfold outk
            have hq : q0 = k := by rw [HQ0.out, if_neg (by rw [nat_eq HXE.out]; exact he)]
            have hkl := (List.getElem?_eq_some_iff.1 HXE.out).1
            rw [if_neg (by omega), hq, take_snoc HXE.out, List.drop_append_of_le_length (by rw [List.length_take]; omega), List.drop_of_length_le (by rw [List.length_take]; omega), List.nil_append]
          have d3 : (x.1.toList == t.toList) = false := by rw [list_eq_b, decide_eq_false he]
          clear he
          go_wp2_with (first
            | (at_builtin; (refine wpList_appR26 (t, (A2, n2, c2)) rfl (.tmp 25) (.tmp 27) rfl rfl rfl ((hI.out.2.below (belowA _ _)).below (belowA _ _)) (RowK.lit (k := 2) (T := 95) (B := 0) (World.alloc wr (.cells #[.string x.1, .slice A1 n1 c1] 95)) 1 [.string t, .slice A2 n2 c2] (by simp) rfl (by omega) (Nat.zero_le _)).rd ((HBX.out.below (belowA _ _)).below (belowA _ _)) (by omega) HS1.out (by have := HZ.out; simp; omega) ?_); intro A4 c4 w4 hl4 hb4 hg4; have HB4 : Hid (Below w0.heap.size w0 w4) := ((hI.out.1.alloc HZ.out _).alloc (by have := HZ.out; simp; omega) _).trans hb4; have HL4 := Lib.hid hl4; have HO4 : Hid (OwnB B L w4 (x.1, (A1, n1, c1)) x) := (by obtain ⟨hs2, k1, _⟩ := (hI.out.2.below (belowA wr (.cells #[.string x.1, .slice A1 n1 c1] 95))).below (belowA _ (.cells ([.string t, .slice A2 n2 c2] : List Value).toArray 95)); exact ((HO.out.below (belowA _ _)).below (belowA _ _)).grownR (k1.mono HS1.out) hg4); have y0 : w4.cell? ⟨wr.heap.size, 0, none⟩ = some (.string x.1) := hg4.cell ((belowA _ _).cell (p := ⟨wr.heap.size, 0, none⟩) (by simp) |>.trans HE.out.1) hrow.out; have y1 : w4.cell? ⟨wr.heap.size, 1, none⟩ = some (.slice A1 n1 c1) := hg4.cell ((belowA _ _).cell (p := ⟨wr.heap.size, 1, none⟩) (by simp) |>.trans HE.out.2) hrow.out; have z0 := (HT0.out.below HB4.out).1; have z1 := (HT1.out.below HB4.out).1; clear hl4 hb4 hg4)
            | (at_builtin; (refine wpList_appR26 (x.1, (A1, n1, c1)) rfl (.tmp 34) (.tmp 36) rfl rfl rfl (HL4.out.below (belowA _ _)) (RowK.lit (k := 2) (T := 95) (B := 0) w4 1 [.string x.1, .slice A1 n1 c1] (by simp) rfl (by omega) (Nat.zero_le _)).rd (HO4.out.below (belowA _ _)) (by omega) HS1.out (by have := HB4.out.size; simp; omega) ?_); intro A5 c5 w5 hl5 hb5 _; have HN : Hid (Below w0.heap.size w0 w5 ∧ ListS B w0.heap.size L w5 A5 (m + 1 + 1) c5 (outk qs (t, ps) k q0 (k + 1))) := ⟨(HB4.out.alloc HB4.out.size _).trans hb5, (by rw [HST.out]; exact hl5)⟩; clear hl5 hb5))
          go_roundw
          case rel => exact ⟨k + 1, m + 1 + 1, A5, c5, HN, by omega, by omega, rfl, by rw [d4], by go_num⟩
          case measure => simp [intOf]; omega
      · have hc : bcmp x.1 t ≠ 0 := fun e => by
          have h1 := HP.out.2.2 p (Nat.le_refl _) (by have := HNQ.out; omega)
          have h2 := HR.out p k hkp (by have := HNQ.out; omega)
          rw [hnx, bcmp_eq.1 e] at h2
          omega
        have d1 : decide (p < k) = true := decide_eq_true hkp
        have d3 : (x.1.toList == t.toList) = false := by rw [list_eq_b, decide_eq_false (fun e => hc (bcmp_eq.2 e))]
        have HST : Hid (outk qs (t, ps) p q0 (k + 1) = outk qs (t, ps) p q0 k ++ [x]) := outk_step HXE.out hq01 (.inr ⟨by omega, hkp⟩)
        have d4 : decide (p < k + 1) = true := decide_eq_true (by omega)
        clear hc hnx
        rw [d1]
        go_wp2_with (at_builtin; (refine wpList_appR26 (x.1, (A1, n1, c1)) rfl (.tmp 34) (.tmp 36) rfl rfl rfl ((hI.out.2.below (belowA _ _)).below (belowA _ _)) (RowK.lit (k := 2) (T := 95) (B := 0) (World.alloc wr (.cells #[.string x.1, .slice A1 n1 c1] 95)) 1 [.string x.1, .slice A1 n1 c1] (by simp) rfl (by omega) (Nat.zero_le _)).rd ((HO.out.below (belowA _ _)).below (belowA _ _)) (by omega) HS1.out (by have := HZ.out; simp; omega) ?_); intro A4 c4 w4 hl4 hb4 _; have HN : Hid (Below w0.heap.size w0 w4 ∧ ListS B w0.heap.size L w4 A4 (m + 1) c4 (outk qs (t, ps) p q0 (k + 1))) := ⟨((hI.out.1.alloc HZ.out _).alloc (by have := HZ.out; simp; omega) _).trans hb4, (by rw [HST.out]; exact hl4)⟩; clear hl4 hb4)
        go_roundw
        case rel => exact ⟨k + 1, m + 1, A4, c4, HN, by omega, by omega, rfl, by rw [d4], by go_num⟩
        case measure => simp [intOf]; omega
    · obtain rfl : k = n := by omega
      rcases Nat.lt_or_ge p k with hpk | hpk
      · have hfin : outk qs (t, ps) p q0 k = insq qs (t, ps) := by
          rw [insq_out HP.out (by have := HNQ.out; omega), ← HQ0.out]
          unfold outk
          rw [if_neg (by omega), List.take_of_length_le (l := qs) (i := k) (by have := HNQ.out; omega)]
        have HRES : Hid (ListR B L wr A' m c' (insq qs (t, ps)) ∧ Below w.heap.size w wr) := by
          obtain ⟨hs2, k1, k2⟩ := hI.out.2
          rw [hfin] at k2
          exact ⟨⟨hs2, k1.mono HS1.out, k2⟩, HW.out.trans (hI.out.1.mono (by have := hS0.out; omega))⟩
        have d1 : decide (p < k) = true := decide_eq_true hpk
        rw [d1]
        clear hI hfin
        go_wp2
        go_ret
        exact ⟨A', m, c', rfl, HRES.out.1, HRES.out.2⟩
      · obtain rfl : p = k := by omega
        have hfin : outk qs (t, ps) p q0 p ++ [(t, ps)] = insq qs (t, ps) := by
          have h1 := (insq_pos qs (t, ps) p HP.out).2 (fun hf => by have := hf.1; have := HNQ.out; omega)
          rw [h1]
          unfold outk
          rw [if_pos (Nat.le_refl _), List.drop_of_length_le (by have := HNQ.out; omega), List.append_nil]
        have HFI := Lib.hid hfin
        have d1 : decide (p < p) = false := decide_eq_false (Nat.lt_irrefl _)
        have HBX : Hid (OwnB B L wr (t, (A2, n2, c2)) (t, ps)) := (HBB.out.below HW.out).below hI.out.1
        have t0 := (HT0.out.below hI.out.1).1
        have t1 := (HT1.out.below hI.out.1).1
        have HZ : Hid (w0.heap.size ≤ wr.heap.size) := hI.out.1.size
        clear hfin
        rw [d1]
        go_wp2_with (at_builtin; (refine wpList_appR26 (t, (A2, n2, c2)) rfl (.tmp 41) (.tmp 43) rfl rfl rfl (hI.out.2.below (belowA _ _)) (RowK.lit (k := 2) (T := 95) (B := 0) wr 1 [.string t, .slice A2 n2 c2] (by simp) rfl (by omega) (Nat.zero_le _)).rd (HBX.out.below (belowA _ _)) (by omega) HS1.out (by have := HZ.out; simp; omega) ?_); intro A4 c4 w4 hl4 hb4 _; have HN : Hid (Below w0.heap.size w0 w4 ∧ ListS B w0.heap.size L w4 A4 (m + 1) c4 (insq qs (t, ps))) := ⟨(hI.out.1.alloc HZ.out _).trans hb4, (by rw [← HFI.out]; exact hl4)⟩; clear hl4 hb4)
        have HRES : Hid (ListR B L w4 A4 (m + 1) c4 (insq qs (t, ps)) ∧ Below w.heap.size w w4) := by
          obtain ⟨hs2, k1, k2⟩ := HN.out.2
          exact ⟨⟨hs2, k1.mono HS1.out, k2⟩, HW.out.trans (HN.out.1.mono (by have := hS0.out; omega))⟩
        go_ret
        exact ⟨A4, m + 1, c4, rfl, HRES.out.1, HRES.out.2⟩
end Go.Proofs.YtamfhmmcnlollaaGreat
namespace Go.Proofs.YtamfhmmcnlollaaGreat
open Go.RowKit
set_option linter.unusedVariables false
set_option linter.unusedSimpArgs false

def GOfR (w : World) (L : Nat) (bs : List Bn) (e : Ending) (w' : World) : Prop :=
  Below w.heap.size w w' ∧ ((Hid (ofc bs ≠ 0) ∧ e = .returned (.tuple #[.slice none 0 0, .int .i64 (ofc bs)])) ∨
    (Hid (ofc bs = 0 ∧ 64 < (ofq [] bs).length) ∧ e = .returned (.tuple #[.slice none 0 0, .int .i64 12])) ∨
    (Hid (ofc bs = 0 ∧ (ofq [] bs).length ≤ 64) ∧ ∃ A m c, e = .returned (.tuple #[.slice A m c, .int .i64 0]) ∧ ListR w.heap.size L w' A m c (ofq [] bs)))
theorem ofq_len2 (bs : List Bn) : ∀ (acc : List Bq), (ofq acc bs).length ≤ acc.length + bs.length := by
  induction bs with
  | nil => intro acc; exact Nat.le_refl _
  | cons b bs ih =>
    intro acc
    have h1 := ih (insq acc (b.1, pn b.2))
    have h2 := (insq_len acc (b.1, pn b.2)).2
    show (ofq (insq acc (b.1, pn b.2)) bs).length ≤ _
    rw [List.length_cons]
    omega
set_option maxHeartbeats 8000000 in
set_option maxRecDepth 100000 in
theorem rof_any {A : Option Addr} {n c L : Nat} {bs : List Bn} {w : World} (h : ListI L w (.slice A n c) bs) (hL1 : 1 ≤ L) (hL : L ≤ 268435456) (hn : n ≤ 1048576) :
    Calls Tryz.prog 19 #[.slice A n c] w (GOfR w L bs) := by
  have H := Lib.hid h
  have HNQ : Hid (n = bs.length) := h.len.1
  clear h
  go_enter Tryz.func19, Tryz.ntmps19
  go_wp2
  go_loopw [14] (fun kv wr => ∃ (i : Nat), Hid (Below w.heap.size w wr ∧ RowK 2 95 w.heap.size wr (some ⟨w.heap.size, 0, none⟩) 0 0 [] ∧ ∀ b ∈ bs.take i, rightc b = 0) ∧ i ≤ n ∧ kv = .int .i64 (i : Int)) (fun kv _ => n - (intOf kv).toNat)
  case atStart => exact ⟨0, ⟨belowA _ _, by have := RowK.lit (k := 2) (T := 95) (B := w.heap.size) w 0 [] rfl rfl (by omega) (Nat.le_refl _); simpa using this, by simp⟩, Nat.zero_le _, rfl⟩
  case round =>
    obtain ⟨i, hI, hi, rfl⟩ := hrel
    by_cases hlt : i < n
    · obtain ⟨b, off, A1, n1, c1, r, e, hb, eq, h0, h1, h3, h4, h5⟩ := (H.out.below hI.out.1).at (i := i) (by have := HNQ.out; omega)
      have HQ := Lib.hid eq
      have HP := Lib.hid h3
      have HS := Lib.hid h4
      clear eq h3 h4
      subst e
      have i1 : (0 : Int) ≤ (i : Int) := by omega
      have i2 : (i : Int) < (n : Int) := by omega
      have x0 := h0.1
      have x1 := h1.1
      have CN := Lib.hid (rname_k r.1 (World.alloc wr (.cells #[.string r.1, .slice A1 n1 c1] 95)) HS.out)
      clear h0 h1
      by_cases hz : rightc r = 0
      · rw [(rightc_zero hz).1] at CN
        have CF := Lib.hid fun w' (hb : Below (World.alloc wr (.cells #[.string r.1, .slice A1 n1 c1] 95)).heap.size (World.alloc wr (.cells #[.string r.1, .slice A1 n1 c1] 95)) w') => rfits_any ((HP.out.below (belowA _ _)).below hb) hL1 hL h5
        rw [(rightc_zero hz).2] at CF
        go_wp2_with fail
        refine (CN.out).mono ?_
        rintro e w1 ⟨rfl, hb1⟩
        clear x0 x1
        have x1 := ((At.boxc (i := 1) (v := .slice A1 n1 c1) (t := 95) (b := wr.heap.size) wr #[.string r.1, .slice A1 n1 c1] rfl (by simp)).below hb1).1
        go_wp2_with fail
        refine (CF.out _ hb1).mono ?_
        rintro e w2 ⟨rfl, hb2⟩
        clear x1
        have HN : Hid (Below w.heap.size w w2 ∧ RowK 2 95 w.heap.size w2 (some ⟨w.heap.size, 0, none⟩) 0 0 [] ∧ ∀ b ∈ bs.take (i + 1), rightc b = 0) := by
          refine ⟨bt hI.out.1 (bt (bt ((Below.refl _ _).alloc (Nat.le_refl _) (.cells #[.string r.1, .slice A1 n1 c1] 95)) hb1) hb2), hI.out.2.1.below (bt (bt ((Below.refl _ _).alloc (Nat.le_refl _) (.cells #[.string r.1, .slice A1 n1 c1] 95)) hb1) hb2), fun b' hm => ?_⟩
          rw [take_snoc HQ.out] at hm
          rcases List.mem_append.1 hm with hm | hm
          · exact hI.out.2.2 b' hm
          · simp at hm; subst hm; exact hz
        go_wp2
        go_roundw
        case rel => exact ⟨i + 1, HN, by omega, by go_num⟩
        case measure => simp [intOf]; omega
      · have HC : Hid (ofc bs = rightc r) := ofc_at HQ.out hI.out.2.2 hz
        have HZ : Hid (ofc bs ≠ 0) := by rw [HC.out]; exact hz
        rcases rightc_bad hz with hx | ⟨hx0, hx⟩
        · have HC2 : Hid (ofc bs = nm r.1) := by rw [HC.out]; unfold rightc; rw [if_neg hx]; rfl
          have d1 : (nm r.1 == 0) = false := by rw [beq_eq_false_iff_ne]; exact hx
          have d2 : (nm r.1 != 0) = true := by simp [bne, d1]
          clear HC hz hx
          generalize nm r.1 = z at CN d1 d2 HC2
          go_wp2_with fail
          refine (CN.out).mono ?_
          rintro e w3 ⟨rfl, hb3⟩
          have HB := Lib.hid (bt hI.out.1 (bt ((Below.refl _ _).alloc (Nat.le_refl _) (.cells #[.string r.1, .slice A1 n1 c1] 95)) hb3))
          go_wp2
          go_ret2
          exact ⟨HB.out, .inl ⟨HZ, by rw [HC2.out]; rfl⟩⟩
        · have HC2 : Hid (ofc bs = fitc r.2) := by rw [HC.out]; unfold rightc; rw [if_pos hx0]; rfl
          rw [hx0] at CN
          have CF := Lib.hid fun w' (hb : Below (World.alloc wr (.cells #[.string r.1, .slice A1 n1 c1] 95)).heap.size (World.alloc wr (.cells #[.string r.1, .slice A1 n1 c1] 95)) w') => rfits_any ((HP.out.below (belowA _ _)).below hb) hL1 hL h5
          have d1 : (fitc r.2 == 0) = false := by rw [beq_eq_false_iff_ne]; exact hx
          have d2 : (fitc r.2 != 0) = true := by simp [bne, d1]
          clear HC hz hx hx0
          generalize fitc r.2 = z at CF d1 d2 HC2
          go_wp2_with fail
          refine (CN.out).mono ?_
          rintro e w4 ⟨rfl, hb4⟩
          clear x0 x1
          have x1 := ((At.boxc (i := 1) (v := .slice A1 n1 c1) (t := 95) (b := wr.heap.size) wr #[.string r.1, .slice A1 n1 c1] rfl (by simp)).below hb4).1
          go_wp2_with fail
          refine (CF.out _ hb4).mono ?_
          rintro e w5 ⟨rfl, hb5⟩
          clear x1
          have HB := Lib.hid (bt hI.out.1 (bt (bt ((Below.refl _ _).alloc (Nat.le_refl _) (.cells #[.string r.1, .slice A1 n1 c1] 95)) hb4) hb5))
          go_wp2
          go_ret2
          exact ⟨HB.out, .inl ⟨HZ, by rw [HC2.out]; rfl⟩⟩
    · obtain rfl : i = n := by omega
      have HAL : Hid (∀ b ∈ bs, rightc b = 0) := fun b hb => hI.out.2.2 b (by rw [List.take_of_length_le (by have := HNQ.out; omega)]; exact hb)
      have HC0 : Hid (ofc bs = 0) := ofc_all HAL.out
      have HB0 := Lib.hid hI.out.1
      have HR0 := Lib.hid hI.out.2.1
      have HZ0 : Hid (w.heap.size ≤ wr.heap.size) := HB0.out.size
      have C := Lib.hid (rform_any (H.out.below HB0.out) (fun b hb => fitc_pos (rightc_zero (HAL.out b hb)).2) hL1 hL (by omega))
      clear hI
      obtain ⟨wd, rfl⟩ : ∃ wd : World, wd = wr := ⟨_, rfl⟩
      go_wp2_with fail
      refine C.out.mono ?_
      rintro e w1 ⟨A5, c5, rfl, hl, hb1⟩
      have HF := Lib.hid hl
      have HB1 : Hid (Below w.heap.size w w1) := bt HB0.out hb1
      have HR1 := Lib.hid (HR0.out.below hb1)
      clear hl hb1 C HR0
      go_wp2
      go_loopw [4, 34] (fun ov kv wr => ∃ (j m : Nat) (A' : Option Addr) (c' : Nat), Hid (Below w1.heap.size w1 wr ∧ ListR w.heap.size L wr A' m c' (ofq [] (bs.take j))) ∧ j ≤ i ∧ m ≤ j ∧ ov = .slice A' m c' ∧ kv = .int .i64 (j : Int)) (fun _ kv _ => i - (intOf kv).toNat)
      case atStart => exact ⟨0, 0, _, _, ⟨Below.refl _ _, [], by simpa using HR1.out, by simpa [ofq] using All2.nil⟩, Nat.zero_le _, Nat.zero_le _, rfl, rfl⟩
      case round =>
        obtain ⟨j, m, A', c', hI, hj, hm, rfl, rfl⟩ := hrel
        by_cases hlt2 : j < i
        · obtain ⟨r, er⟩ : ∃ r, bs[j]? = some r := ⟨_, List.getElem?_eq_getElem (by have := HNQ.out; omega)⟩
          have ex : (bs.map fq)[j]? = some (fq r) := by rw [List.getElem?_map, er]; rfl
          have HX : Hid (∃ (hs : List Hb) (hd : Hb), RdK 2 wr A5 i c5 (hs.flatMap hbv) ∧ hs[j]? = some hd ∧ OwnB w.heap.size L wr hd (fq r)) := by
            obtain ⟨hs, k1, k2⟩ := (HF.out.mono HZ0.out).below hI.out.1
            obtain ⟨hd, x', e1, e2, e3⟩ := k2.at (i := j) (by rw [List.length_map]; have := HNQ.out; omega)
            have : fq r = x' := by have := ex.symm.trans e2; injection this
            subst this
            exact ⟨hs, hd, k1.rd, e1, e3⟩
          obtain ⟨hs, hd, k1, k2, k3⟩ := HX.out
          obtain ⟨b, off, e, hbl, g0, g1⟩ := k1.at2 k2
          subst e
          obtain ⟨nm0, A1, n1, c1⟩ := hd
          have hnm0 : nm0 = r.1 := k3.1
          subst hnm0
          have HO := Lib.hid k3
          have HE := Lib.hid er
          have x0 := g0.1
          have x1 := g1.1
          simp only [shv] at x1
          have i1 : (0 : Int) ≤ (j : Int) := by omega
          have i2 : (j : Int) < (i : Int) := by omega
          have HSN : Hid (ofq [] (bs.take (j + 1)) = insq (ofq [] (bs.take j)) (r.1, pn r.2)) := ofq_snoc er
          have HRI : Hid (Rises (ofq [] (bs.take j))) := ofq_rises _ _ (fun a b h1 h2 => by simp at h2)
          clear HX k1 k2 k3 g0 g1 er ex
          have HBA : Hid (Below w1.heap.size w1 (World.alloc wr (.cells #[.string r.1, .slice A1 n1 c1] 95))) := bt hI.out.1 (belowA _ _)
          have HZ1 : Hid (w.heap.size ≤ (World.alloc wr (.cells #[.string r.1, .slice A1 n1 c1] 95)).heap.size) := by have h1 := HB1.out.size; have h2 := HBA.out.size; show _ ≤ _; omega
          have C := Lib.hid (rset_any (hI.out.2.below (belowA _ (.cells #[.string r.1, .slice A1 n1 c1] 95))) HRI.out (HO.out.below (belowA _ _)) (by omega) HZ1.out)
          go_wp2_with fail
          refine C.out.mono ?_
          rintro e w2 ⟨A6, m6, c6, rfl, hl6, hb6⟩
          have HN : Hid (Below w1.heap.size w1 w2 ∧ ListR w.heap.size L w2 A6 m6 c6 (ofq [] (bs.take (j + 1)))) := ⟨bt HBA.out hb6, by rw [HSN.out]; exact hl6⟩
          have hm6 : m6 ≤ j + 1 := by
            have h7 := HN.out.2.len
            have h8 := ofq_len2 (bs.take (j + 1)) []
            rw [List.length_take] at h8
            simp only [List.length_nil] at h8
            omega
          clear hl6 hb6 x0 x1 C hI
          go_wp2
          go_roundw
          case rel => exact ⟨j + 1, m6, A6, c6, HN, by omega, hm6, rfl, by go_num⟩
          case measure => simp [intOf]; omega
        · obtain rfl : j = i := by omega
          have HR : Hid (m = (ofq [] bs).length ∧ Below w.heap.size w wr ∧ ListR w.heap.size L wr A' m c' (ofq [] bs)) := by
            have h6 := hI.out.2
            rw [List.take_of_length_le (by have := HNQ.out; omega)] at h6
            exact ⟨h6.len, bt HB1.out hI.out.1, h6⟩
          clear hI
          by_cases h64 : 64 < m
          · have d : (64 : Int) < (m : Int) := by omega
            have d2 : decide ((64 : Int) < (m : Int)) = true := decide_eq_true d
            go_wp2
            go_ret2
            exact ⟨HR.out.2.1, .inr (.inl ⟨⟨HC0.out, by have := HR.out.1; show 64 < _; omega⟩, rfl⟩)⟩
          · have d : ¬ (64 : Int) < (m : Int) := by omega
            have d2 : decide ((64 : Int) < (m : Int)) = false := decide_eq_false d
            go_wp2
            go_ret2
            exact ⟨HR.out.2.1, .inr (.inr ⟨⟨HC0.out, by have := HR.out.1; show _ ≤ 64; omega⟩, A', m, c', rfl, HR.out.2.2⟩)⟩
end Go.Proofs.YtamfhmmcnlollaaGreat
