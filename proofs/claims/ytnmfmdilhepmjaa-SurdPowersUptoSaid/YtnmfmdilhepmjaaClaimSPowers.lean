/-
  SurdPowers, proved: for all inputs (of bulk at most 1048576 together) surdtop.SurdPowers answers true and leaves its arguments as they were.
  Conditions: those of the statement SurdPowersUptoSaid, no others.
-/
import Derived.Test.YtnmfmdilhepmjaaSPowers
import Derived.Test.YtnmfmdilhepmjaaRow
namespace Go.Proofs.Ytnmfmdilhepmjaa.surdPowers
open Go.ChangeShapes Go.WideShapes Go.ChangeAt Go.RowKit Go.Deep
open Go.ChangeMaps (open_string)
set_option linter.unusedVariables false

theorem st2 : ∃ fs, Try.prog.underlying 37 = some (.struct fs) ∧ oneCellFields Try.prog fs = true ∧ Try.prog.cellsOf 37 = fs.size ∧ fs.toList.map (·.type) = [3, 3] := ⟨_, Try.underlying37, by kernel_rfl, by kernel_rfl, by kernel_rfl⟩
set_option maxRecDepth 100000 in
theorem contract (H : Type) (enc : TypeId × Value → H) (W : World) (base : Nat) (args : Array Value) (ds gs : List (DataW H)) (before : List MemPlace)
    (hval : ∀ (j : Nat) t v, Try.f4.params[j]? = some t → args[j]? = some v → Value.okWide Try.prog W .any base t v)
    (hW : DataW.Whole enc Try.prog Try.f4.params.toList Rows.surdPowersSpec.vars false W args.toList ds gs before) (hk : Rows.uptoSmall H (ds ++ gs) = true) :
    Calls Try.prog 4 args W fun e W' => ∃ v, e = .returned v ∧ Rows.surdPowersSpec.post enc Try.prog Try.f4 false true false false W args v W' := by
  have hW' := hW
  obtain ⟨p, q, hA0, hV, rfl, hfz, hnd⟩ := hW
  have hA : DataW.TrodAll enc Try.prog W 0 (fun _ => true) true Try.f4.params.toList args.toList ds p := hA0
  rw [Try.params4] at hA hval
  obtain ⟨v0, vs0, d0, ds0, p0, q0, hargs0, rfl, rfl, h0, r0⟩ := trodAll_cons hA
  obtain ⟨v1, vs1, d1, ds1, p1, q1, hargs1, rfl, rfl, h1, r1⟩ := trodAll_cons r0
  obtain ⟨v2, vs2, d2, ds2, p2, q2, hargs2, rfl, rfl, h2, r2⟩ := trodAll_cons r1
  obtain ⟨rfl, rfl, rfl⟩ := trodAll_nil r2
  subst hargs2 hargs1
  obtain rfl : args = #[v0, v1, v2] := by cases args; simp_all
  obtain ⟨rfl, rfl⟩ := trodVars_none hV
  have hbulk : Rows.uptoBulkAll [d0, d1, d2] ≤ 1048576 := of_decide_eq_true hk
  simp only [Rows.uptoBulkAll] at hbulk
  obtain ⟨A0, n0, c0, xs0, rfl, R0, W0, b0⟩ := open_words Try.underlying23 Try.underlying26 cells_u64 (hval 0 23 v0 rfl rfl) h0
  obtain ⟨A1, n1, c1, xs1, rfl, R1, W1, b1⟩ := open_words Try.underlying23 Try.underlying26 cells_u64 (hval 1 23 v1 rfl rfl) h1
  obtain ⟨fs2, u2, one2, C2, ft2⟩ := st2
  have fsz2 : fs2.size = 2 := by have := congrArg List.length ft2; simpa using this
  obtain ⟨us2, ys2, n2, rfl, rfl, lu2, ly2, hf2⟩ := open_aggs u2 one2 C2 (hval 2 37 v2 rfl rfl) h2
  obtain ⟨u2_0, u2_1, rfl⟩ := list2 (lu2.trans fsz2)
  obtain ⟨y2_0, y2_1, rfl⟩ := list2 (ly2.trans fsz2)
  clear lu2 ly2
  simp only [Rows.uptoBulk, Rows.uptoBulkAll, List.map_cons, List.map_nil] at hbulk
  have g2_0 : ∃ m, DataW.trod enc Try.prog W 0 (fun _ => true) true m 3 [u2_0] = some y2_0 := by
    have hj : 0 < fs2.size := by omega
    obtain ⟨u, y, e1, e2, e3⟩ := hf2 0 fs2[0] (Array.getElem?_eq_getElem hj)
    have e4 : fs2[0].type = 3 := by have := congrArg (fun l => l[0]?) ft2; simpa [hj] using this
    injection e1 with e1; injection e2 with e2; subst e1 e2
    exact ⟨_, by rw [e4] at e3; exact e3⟩
  obtain ⟨m2_0, g2_0⟩ := g2_0
  obtain ⟨z2_0, rfl, lo2_0, hi2_0⟩ := int_of Try.underlying3 g2_0
  have g2_1 : ∃ m, DataW.trod enc Try.prog W 0 (fun _ => true) true m 3 [u2_1] = some y2_1 := by
    have hj : 1 < fs2.size := by omega
    obtain ⟨u, y, e1, e2, e3⟩ := hf2 1 fs2[1] (Array.getElem?_eq_getElem hj)
    have e4 : fs2[1].type = 3 := by have := congrArg (fun l => l[1]?) ft2; simpa [hj] using this
    injection e1 with e1; injection e2 with e2; subst e1 e2
    exact ⟨_, by rw [e4] at e3; exact e3⟩
  obtain ⟨m2_1, g2_1⟩ := g2_1
  obtain ⟨z2_1, rfl, lo2_1, hi2_1⟩ := int_of Try.underlying3 g2_1
  refine (surdPowers_any R0 W0 (R1.num W1 (L := 1048576) (by omega)) (by omega) (by omega)).mono fun e W' ⟨he, hb⟩ => ?_
  subst he
  exact ⟨_, rfl, law_post rfl rfl rfl Try.underlying4 kids slices_full (by rw [Try.params4]; decide +kernel) hW' hb⟩

set_option maxRecDepth 100000 in
theorem lifted (os : Os) (started : os.Started) (H : Type) (enc : TypeId × Value → H) (F : Stop.Interp) :
    ReturnsInHanded {} Try.checked os 4 .any ((Rows.OpenSpec.upto Rows.surdPowersSpec).pre6 enc Try.prog Try.f4 Rows.surdPowersUptoRow.domain false) (((Rows.OpenSpec.upto Rows.surdPowersSpec).at F).post enc Try.prog Try.f4 false true false false) := by
  refine returnsInHanded_of_cond (C := Try.checked) (s := Rows.OpenSpec.upto Rows.surdPowersSpec) (k := Rows.uptoSmall) rfl own started (by kernel_rfl) Try.func4
    (OpenSpec.witness (enc := enc) (C := Try.checked) (s := Rows.OpenSpec.upto Rows.surdPowersSpec) (k := Rows.uptoSmall) rfl false ⟨#[], #[.slice none 0 0, .slice none 0 0, .agg #[.int .i64 0, .int .i64 0]], []⟩ 8 (by kernel_rfl) (by kernel_rfl) (by kernel_rfl)
      (x := ([.nil, .nil, .agg [.lit (.int .i64 0), .lit (.int .i64 0)]], [], [])) (by kernel_rfl) rfl (by kernel_rfl)) ?_
  intro W base args ds gs before hval hW _ hk _
  exact contract H enc W base args ds gs before hval hW hk

theorem proved : Rows.SurdPowersUptoSaid :=
  OpenClaim.holds_of_cond 4 Try.f4 rfl rfl rfl rfl rfl rfl rfl ⟨rfl, rfl, rfl, rfl, rfl⟩ rfl rfl rfl rfl rfl (by kernel_rfl) Try.func4 (by kernel_rfl)
    (of_decide_eq_true (by kernel_rfl)) (by unfold Func.isWrapper; first | (rw [if_pos (by decide +kernel)]; kernel_rfl) | (rw [if_neg (by decide +kernel)]; exact ⟨rfl, rfl⟩))
    (fun os started H enc _ F => lifted os started H enc F)
#print axioms proved
end Go.Proofs.Ytnmfmdilhepmjaa.surdPowers
