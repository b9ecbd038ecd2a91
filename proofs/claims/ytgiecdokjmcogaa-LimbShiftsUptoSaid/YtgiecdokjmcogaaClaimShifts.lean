/-
  LimbShifts, proved: for all inputs (of bulk at most 1048576 together) surdlaw01.LimbShifts answers true and leaves its arguments as they were.
  Conditions: those of the statement LimbShiftsUptoSaid, no others.
-/
import Derived.Test.YtgiecdokjmcogaaShL
import Derived.Test.YtgiecdokjmcogaaRow
namespace Go.Proofs.Ytgiecdokjmcogaa.limbShifts
open Go.ChangeShapes Go.WideShapes Go.ChangeAt Go.RowKit Go.Deep
open Go.ChangeMaps (open_string)
set_option linter.unusedVariables false

theorem st0 : ∃ fs, Try.prog.underlying 37 = some (.struct fs) ∧ oneCellFields Try.prog fs = true ∧ Try.prog.cellsOf 37 = fs.size ∧ fs.toList.map (·.type) = [25, 25, 25, 25, 22, 22, 3] := ⟨_, Try.underlying37, by kernel_rfl, by kernel_rfl, by kernel_rfl⟩
set_option maxRecDepth 100000 in
theorem contract (H : Type) (enc : TypeId × Value → H) (W : World) (base : Nat) (args : Array Value) (ds gs : List (DataW H)) (before : List MemPlace)
    (hval : ∀ (j : Nat) t v, Try.f5.params[j]? = some t → args[j]? = some v → Value.okWide Try.prog W .any base t v)
    (hW : DataW.Whole enc Try.prog Try.f5.params.toList Rows.limbShiftsSpec.vars false W args.toList ds gs before) (hk : Rows.uptoSmall H (ds ++ gs) = true) :
    Calls Try.prog 5 args W fun e W' => ∃ v, e = .returned v ∧ Rows.limbShiftsSpec.post enc Try.prog Try.f5 false true false false W args v W' := by
  have hW' := hW
  obtain ⟨p, q, hA0, hV, rfl, hfz, hnd⟩ := hW
  have hA : DataW.TrodAll enc Try.prog W 0 (fun _ => true) true Try.f5.params.toList args.toList ds p := hA0
  rw [Try.params5] at hA hval
  obtain ⟨v0, vs0, d0, ds0, p0, q0, hargs0, rfl, rfl, h0, r0⟩ := trodAll_cons hA
  obtain ⟨rfl, rfl, rfl⟩ := trodAll_nil r0
  obtain rfl : args = #[v0] := by cases args; simp_all
  obtain ⟨rfl, rfl⟩ := trodVars_none hV
  have hbulk : Rows.uptoBulkAll [d0] ≤ 1048576 := of_decide_eq_true hk
  simp only [Rows.uptoBulkAll] at hbulk
  obtain ⟨fs0, u0, one0, C0, ft0⟩ := st0
  have fsz0 : fs0.size = 7 := by have := congrArg List.length ft0; simpa using this
  obtain ⟨us0, ys0, n0, rfl, rfl, lu0, ly0, hf0⟩ := open_aggs u0 one0 C0 (hval 0 37 v0 rfl rfl) h0
  obtain ⟨u0_0, u0_1, u0_2, u0_3, u0_4, u0_5, u0_6, rfl⟩ := list7 (lu0.trans fsz0)
  obtain ⟨y0_0, y0_1, y0_2, y0_3, y0_4, y0_5, y0_6, rfl⟩ := list7 (ly0.trans fsz0)
  clear lu0 ly0
  simp only [Rows.uptoBulk, Rows.uptoBulkAll, List.map_cons, List.map_nil] at hbulk
  have g0_0 : ∃ m, DataW.trod enc Try.prog W 0 (fun _ => true) true m 25 [u0_0] = some y0_0 := by
    have hj : 0 < fs0.size := by omega
    obtain ⟨u, y, e1, e2, e3⟩ := hf0 0 fs0[0] (Array.getElem?_eq_getElem hj)
    have e4 : fs0[0].type = 25 := by have := congrArg (fun l => l[0]?) ft0; simpa [hj] using this
    injection e1 with e1; injection e2 with e2; subst e1 e2
    exact ⟨_, by rw [e4] at e3; exact e3⟩
  obtain ⟨m0_0, g0_0⟩ := g0_0
  obtain ⟨q0_0, rfl, hq0_0⟩ := word_of Try.underlying25 g0_0
  have g0_1 : ∃ m, DataW.trod enc Try.prog W 0 (fun _ => true) true m 25 [u0_1] = some y0_1 := by
    have hj : 1 < fs0.size := by omega
    obtain ⟨u, y, e1, e2, e3⟩ := hf0 1 fs0[1] (Array.getElem?_eq_getElem hj)
    have e4 : fs0[1].type = 25 := by have := congrArg (fun l => l[1]?) ft0; simpa [hj] using this
    injection e1 with e1; injection e2 with e2; subst e1 e2
    exact ⟨_, by rw [e4] at e3; exact e3⟩
  obtain ⟨m0_1, g0_1⟩ := g0_1
  obtain ⟨q0_1, rfl, hq0_1⟩ := word_of Try.underlying25 g0_1
  have g0_2 : ∃ m, DataW.trod enc Try.prog W 0 (fun _ => true) true m 25 [u0_2] = some y0_2 := by
    have hj : 2 < fs0.size := by omega
    obtain ⟨u, y, e1, e2, e3⟩ := hf0 2 fs0[2] (Array.getElem?_eq_getElem hj)
    have e4 : fs0[2].type = 25 := by have := congrArg (fun l => l[2]?) ft0; simpa [hj] using this
    injection e1 with e1; injection e2 with e2; subst e1 e2
    exact ⟨_, by rw [e4] at e3; exact e3⟩
  obtain ⟨m0_2, g0_2⟩ := g0_2
  obtain ⟨q0_2, rfl, hq0_2⟩ := word_of Try.underlying25 g0_2
  have g0_3 : ∃ m, DataW.trod enc Try.prog W 0 (fun _ => true) true m 25 [u0_3] = some y0_3 := by
    have hj : 3 < fs0.size := by omega
    obtain ⟨u, y, e1, e2, e3⟩ := hf0 3 fs0[3] (Array.getElem?_eq_getElem hj)
    have e4 : fs0[3].type = 25 := by have := congrArg (fun l => l[3]?) ft0; simpa [hj] using this
    injection e1 with e1; injection e2 with e2; subst e1 e2
    exact ⟨_, by rw [e4] at e3; exact e3⟩
  obtain ⟨m0_3, g0_3⟩ := g0_3
  obtain ⟨q0_3, rfl, hq0_3⟩ := word_of Try.underlying25 g0_3
  have g0_4 : ∃ m, DataW.trod enc Try.prog W 0 (fun _ => true) true m 22 [u0_4] = some y0_4 := by
    have hj : 4 < fs0.size := by omega
    obtain ⟨u, y, e1, e2, e3⟩ := hf0 4 fs0[4] (Array.getElem?_eq_getElem hj)
    have e4 : fs0[4].type = 22 := by have := congrArg (fun l => l[4]?) ft0; simpa [hj] using this
    injection e1 with e1; injection e2 with e2; subst e1 e2
    exact ⟨_, by rw [e4] at e3; exact e3⟩
  obtain ⟨m0_4, g0_4⟩ := g0_4
  obtain ⟨A0_4, n0_4, c0_4, xs0_4, rfl, R0_4, W0_4, b0_4⟩ := words_of Try.underlying22 Try.underlying25 cells_u64 g0_4
  have g0_5 : ∃ m, DataW.trod enc Try.prog W 0 (fun _ => true) true m 22 [u0_5] = some y0_5 := by
    have hj : 5 < fs0.size := by omega
    obtain ⟨u, y, e1, e2, e3⟩ := hf0 5 fs0[5] (Array.getElem?_eq_getElem hj)
    have e4 : fs0[5].type = 22 := by have := congrArg (fun l => l[5]?) ft0; simpa [hj] using this
    injection e1 with e1; injection e2 with e2; subst e1 e2
    exact ⟨_, by rw [e4] at e3; exact e3⟩
  obtain ⟨m0_5, g0_5⟩ := g0_5
  obtain ⟨A0_5, n0_5, c0_5, xs0_5, rfl, R0_5, W0_5, b0_5⟩ := words_of Try.underlying22 Try.underlying25 cells_u64 g0_5
  have g0_6 : ∃ m, DataW.trod enc Try.prog W 0 (fun _ => true) true m 3 [u0_6] = some y0_6 := by
    have hj : 6 < fs0.size := by omega
    obtain ⟨u, y, e1, e2, e3⟩ := hf0 6 fs0[6] (Array.getElem?_eq_getElem hj)
    have e4 : fs0[6].type = 3 := by have := congrArg (fun l => l[6]?) ft0; simpa [hj] using this
    injection e1 with e1; injection e2 with e2; subst e1 e2
    exact ⟨_, by rw [e4] at e3; exact e3⟩
  obtain ⟨m0_6, g0_6⟩ := g0_6
  obtain ⟨z0_6, rfl, lo0_6, hi0_6⟩ := int_of Try.underlying3 g0_6
  refine (limbShifts_any R0_4 W0_4 (by omega) hi0_6).mono fun e W' ⟨he, hb⟩ => ?_
  subst he
  exact ⟨_, rfl, law_post rfl rfl rfl Try.underlying4 kids slices_full (by rw [Try.params5]; decide +kernel) hW' hb⟩

set_option maxRecDepth 100000 in
theorem lifted (os : Os) (started : os.Started) (H : Type) (enc : TypeId × Value → H) (F : Stop.Interp) :
    ReturnsInHanded {} Try.checked os 5 .any ((Rows.OpenSpec.upto Rows.limbShiftsSpec).pre6 enc Try.prog Try.f5 Rows.limbShiftsUptoRow.domain false) (((Rows.OpenSpec.upto Rows.limbShiftsSpec).at F).post enc Try.prog Try.f5 false true false false) := by
  refine returnsInHanded_of_cond (C := Try.checked) (s := Rows.OpenSpec.upto Rows.limbShiftsSpec) (k := Rows.uptoSmall) rfl own started (by kernel_rfl) Try.func5
    (OpenSpec.witness (enc := enc) (C := Try.checked) (s := Rows.OpenSpec.upto Rows.limbShiftsSpec) (k := Rows.uptoSmall) rfl false ⟨#[], #[.agg #[.int .u64 0, .int .u64 0, .int .u64 0, .int .u64 0, .slice none 0 0, .slice none 0 0, .int .i64 0]], []⟩ 8 (by kernel_rfl) (by kernel_rfl) (by kernel_rfl)
      (x := ([.agg [.lit (.int .u64 0), .lit (.int .u64 0), .lit (.int .u64 0), .lit (.int .u64 0), .nil, .nil, .lit (.int .i64 0)]], [], [])) (by kernel_rfl) rfl (by kernel_rfl)) ?_
  intro W base args ds gs before hval hW _ hk _
  exact contract H enc W base args ds gs before hval hW hk

theorem proved : Rows.LimbShiftsUptoSaid :=
  OpenClaim.holds_of_cond 5 Try.f5 rfl rfl rfl rfl rfl rfl rfl ⟨rfl, rfl, rfl, rfl, rfl⟩ rfl rfl rfl rfl rfl (by kernel_rfl) Try.func5 (by kernel_rfl)
    (of_decide_eq_true (by kernel_rfl)) (by unfold Func.isWrapper; first | (rw [if_pos (by decide +kernel)]; kernel_rfl) | (rw [if_neg (by decide +kernel)]; exact ⟨rfl, rfl⟩))
    (fun os started H enc _ F => lifted os started H enc F)
#print axioms proved
end Go.Proofs.Ytgiecdokjmcogaa.limbShifts
