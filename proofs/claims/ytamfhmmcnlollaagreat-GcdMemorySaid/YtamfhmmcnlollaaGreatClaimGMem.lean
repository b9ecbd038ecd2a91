/-
  GcdMemory, proved: for all inputs surdlaw05.GcdMemory answers true and leaves its arguments as they were.
  Conditions: those of the statement GcdMemorySaid, no others.
-/
import Derived.Test.YtamfhmmcnlollaaGreatGcdLm
import Derived.Test.YtamfhmmcnlollaaGreatRowX
namespace Go.Proofs.YtamfhmmcnlollaaGreat.gcdMemory
open Go.ChangeShapes Go.WideShapes Go.ChangeAt Go.RowKit Go.Deep
open Go.ChangeMaps (open_string)
set_option linter.unusedVariables false

theorem st0 : ∃ fs, Tryz.prog.underlying 26 = some (.struct fs) ∧ oneCellFields Tryz.prog fs = true ∧ Tryz.prog.cellsOf 26 = fs.size ∧ fs.toList.map (·.type) = [23, 23, 23, 24, 24, 3] := ⟨_, Tryz.underlying26, by kernel_rfl, by kernel_rfl, by kernel_rfl⟩
set_option maxRecDepth 100000 in
theorem contract (H : Type) (enc : TypeId × Value → H) (W : World) (base : Nat) (args : Array Value) (ds gs : List (DataW H)) (before : List MemPlace)
    (hval : ∀ (j : Nat) t v, Tryz.f3.params[j]? = some t → args[j]? = some v → Value.okWide Tryz.prog W .any base t v)
    (hW : DataW.Whole enc Tryz.prog Tryz.f3.params.toList Rows.gcdMemorySpec.vars false W args.toList ds gs before) :
    Calls Tryz.prog 3 args W fun e W' => ∃ v, e = .returned v ∧ Rows.gcdMemorySpec.post enc Tryz.prog Tryz.f3 false true false false W args v W' := by
  have hW' := hW
  obtain ⟨p, q, hA0, hV, rfl, hfz, hnd⟩ := hW
  have hA : DataW.TrodAll enc Tryz.prog W 0 (fun _ => true) true Tryz.f3.params.toList args.toList ds p := hA0
  rw [Tryz.params3] at hA hval
  obtain ⟨v0, vs0, d0, ds0, p0, q0, hargs0, rfl, rfl, h0, r0⟩ := trodAll_cons hA
  obtain ⟨rfl, rfl, rfl⟩ := trodAll_nil r0
  obtain rfl : args = #[v0] := by cases args; simp_all
  obtain ⟨rfl, rfl⟩ := trodVars_none hV
  obtain ⟨fs0, u0, one0, C0, ft0⟩ := st0
  have fsz0 : fs0.size = 6 := by have := congrArg List.length ft0; simpa using this
  obtain ⟨us0, ys0, n0, rfl, rfl, lu0, ly0, hf0⟩ := open_aggs u0 one0 C0 (hval 0 26 v0 rfl rfl) h0
  obtain ⟨u0_0, u0_1, u0_2, u0_3, u0_4, u0_5, rfl⟩ := list6 (lu0.trans fsz0)
  obtain ⟨y0_0, y0_1, y0_2, y0_3, y0_4, y0_5, rfl⟩ := list6 (ly0.trans fsz0)
  clear lu0 ly0
  have g0_0 : ∃ m, DataW.trod enc Tryz.prog W 0 (fun _ => true) true m 23 [u0_0] = some y0_0 := by
    have hj : 0 < fs0.size := by omega
    obtain ⟨u, y, e1, e2, e3⟩ := hf0 0 fs0[0] (Array.getElem?_eq_getElem hj)
    have e4 : fs0[0].type = 23 := by have := congrArg (fun l => l[0]?) ft0; simpa [hj] using this
    injection e1 with e1; injection e2 with e2; subst e1 e2
    exact ⟨_, by rw [e4] at e3; exact e3⟩
  obtain ⟨m0_0, g0_0⟩ := g0_0
  obtain ⟨A0_0, n0_0, c0_0, xs0_0, rfl, R0_0, W0_0, b0_0⟩ := words_of Tryz.underlying23 Tryz.underlying41 cells_u64 g0_0
  have g0_1 : ∃ m, DataW.trod enc Tryz.prog W 0 (fun _ => true) true m 23 [u0_1] = some y0_1 := by
    have hj : 1 < fs0.size := by omega
    obtain ⟨u, y, e1, e2, e3⟩ := hf0 1 fs0[1] (Array.getElem?_eq_getElem hj)
    have e4 : fs0[1].type = 23 := by have := congrArg (fun l => l[1]?) ft0; simpa [hj] using this
    injection e1 with e1; injection e2 with e2; subst e1 e2
    exact ⟨_, by rw [e4] at e3; exact e3⟩
  obtain ⟨m0_1, g0_1⟩ := g0_1
  obtain ⟨A0_1, n0_1, c0_1, xs0_1, rfl, R0_1, W0_1, b0_1⟩ := words_of Tryz.underlying23 Tryz.underlying41 cells_u64 g0_1
  have g0_2 : ∃ m, DataW.trod enc Tryz.prog W 0 (fun _ => true) true m 23 [u0_2] = some y0_2 := by
    have hj : 2 < fs0.size := by omega
    obtain ⟨u, y, e1, e2, e3⟩ := hf0 2 fs0[2] (Array.getElem?_eq_getElem hj)
    have e4 : fs0[2].type = 23 := by have := congrArg (fun l => l[2]?) ft0; simpa [hj] using this
    injection e1 with e1; injection e2 with e2; subst e1 e2
    exact ⟨_, by rw [e4] at e3; exact e3⟩
  obtain ⟨m0_2, g0_2⟩ := g0_2
  obtain ⟨A0_2, n0_2, c0_2, xs0_2, rfl, R0_2, W0_2, b0_2⟩ := words_of Tryz.underlying23 Tryz.underlying41 cells_u64 g0_2
  have g0_3 : ∃ m, DataW.trod enc Tryz.prog W 0 (fun _ => true) true m 24 [u0_3] = some y0_3 := by
    have hj : 3 < fs0.size := by omega
    obtain ⟨u, y, e1, e2, e3⟩ := hf0 3 fs0[3] (Array.getElem?_eq_getElem hj)
    have e4 : fs0[3].type = 24 := by have := congrArg (fun l => l[3]?) ft0; simpa [hj] using this
    injection e1 with e1; injection e2 with e2; subst e1 e2
    exact ⟨_, by rw [e4] at e3; exact e3⟩
  obtain ⟨m0_3, g0_3⟩ := g0_3
  obtain ⟨A0_3, n0_3, c0_3, xs0_3, ls0_3, rfl, R0_3, b0_3⟩ := nums_of Tryz.underlying24 Tryz.underlying23 Tryz.underlying41 cells_nat cells_u64 g0_3
  have g0_4 : ∃ m, DataW.trod enc Tryz.prog W 0 (fun _ => true) true m 24 [u0_4] = some y0_4 := by
    have hj : 4 < fs0.size := by omega
    obtain ⟨u, y, e1, e2, e3⟩ := hf0 4 fs0[4] (Array.getElem?_eq_getElem hj)
    have e4 : fs0[4].type = 24 := by have := congrArg (fun l => l[4]?) ft0; simpa [hj] using this
    injection e1 with e1; injection e2 with e2; subst e1 e2
    exact ⟨_, by rw [e4] at e3; exact e3⟩
  obtain ⟨m0_4, g0_4⟩ := g0_4
  obtain ⟨A0_4, n0_4, c0_4, xs0_4, ls0_4, rfl, R0_4, b0_4⟩ := nums_of Tryz.underlying24 Tryz.underlying23 Tryz.underlying41 cells_nat cells_u64 g0_4
  have g0_5 : ∃ m, DataW.trod enc Tryz.prog W 0 (fun _ => true) true m 3 [u0_5] = some y0_5 := by
    have hj : 5 < fs0.size := by omega
    obtain ⟨u, y, e1, e2, e3⟩ := hf0 5 fs0[5] (Array.getElem?_eq_getElem hj)
    have e4 : fs0[5].type = 3 := by have := congrArg (fun l => l[5]?) ft0; simpa [hj] using this
    injection e1 with e1; injection e2 with e2; subst e1 e2
    exact ⟨_, by rw [e4] at e3; exact e3⟩
  obtain ⟨m0_5, g0_5⟩ := g0_5
  obtain ⟨z0_5, rfl, lo0_5, hi0_5⟩ := int_of Tryz.underlying3 g0_5
  refine (gcdMemory_any (R0_0.num W0_0 (Nat.le_refl _)) (R0_1.num W0_1 (Nat.le_refl _)) (R0_2.num W0_2 (Nat.le_refl _)) R0_3 R0_4).mono fun e W' ⟨he, hb⟩ => ?_
  subst he
  exact ⟨_, rfl, law_post rfl rfl rfl Tryz.underlying4 kids slices_full (by rw [Tryz.params3]; decide +kernel) hW' hb⟩

set_option maxRecDepth 100000 in
theorem lifted (os : Os) (started : os.Started) (H : Type) (enc : TypeId × Value → H) :
    ReturnsInHanded {} Tryz.checked os 3 .any (Rows.gcdMemorySpec.pre6 enc Tryz.prog Tryz.f3 Rows.gcdMemoryRow.domain false) (Rows.gcdMemorySpec.post enc Tryz.prog Tryz.f3 false true false false) := by
  refine returnsInHanded_of_change (C := Tryz.checked) own started (by kernel_rfl) Tryz.func3
    (ChangeSpec.witness6 (enc := enc) (C := Tryz.checked) false ⟨#[], #[.agg #[.slice none 0 0, .slice none 0 0, .slice none 0 0, .slice none 0 0, .slice none 0 0, .int .i64 0]], []⟩ 8 (by kernel_rfl) (by kernel_rfl) (by kernel_rfl) (by kernel_rfl)) ?_
  intro W base args ds gs before hval hW hcnd _
  exact contract H enc W base args ds gs before hval hW

theorem proved : Rows.GcdMemorySaid :=
  OpenClaim.holds_of_wide 3 Tryz.f3 rfl rfl rfl rfl rfl rfl rfl ⟨rfl, rfl, rfl, rfl, rfl⟩ rfl rfl rfl rfl rfl (by kernel_rfl) Tryz.func3 (by kernel_rfl)
    (of_decide_eq_true (by kernel_rfl)) (by unfold Func.isWrapper; first | (rw [if_pos (by decide +kernel)]; kernel_rfl) | (rw [if_neg (by decide +kernel)]; exact ⟨rfl, rfl⟩))
    (fun os started H enc _ => lifted os started H enc)
#print axioms proved
end Go.Proofs.YtamfhmmcnlollaaGreat.gcdMemory
