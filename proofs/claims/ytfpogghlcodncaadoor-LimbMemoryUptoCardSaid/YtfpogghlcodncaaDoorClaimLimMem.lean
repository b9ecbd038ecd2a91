/-
  LimbMemory, proved: for all inputs (of bulk at most 1048576 together) surdlaw01.LimbMemory answers true and leaves its arguments as they were.
  Conditions: those of the statement LimbMemoryUptoCardSaid, no others: the package variables that its row lists hold what the program's text lays (the card ties them).
-/
import Derived.Test.YtfpogghlcodncaaDoorLimL
import Derived.Test.YtfpogghlcodncaaDoorRow
import Derived.Test.YtfpogghlcodncaaDoorCards
import Derived.Test.YtfpogghlcodncaaDoorTie
import Derived.Deep.DeepHandedRow
import Derived.Lib.LaidTab
namespace Go.Proofs.YtfpogghlcodncaaDoor.limbMemory
open Go.ChangeShapes Go.WideShapes Go.ChangeAt Go.RowKit Go.Deep
open Go.ChangeMaps (open_string)
set_option linter.unusedVariables false

theorem st0 : ∃ fs, Tryd.prog.underlying 25 = some (.struct fs) ∧ oneCellFields Tryd.prog fs = true ∧ Tryd.prog.cellsOf 25 = fs.size ∧ fs.toList.map (·.type) = [22, 22, 22, 22, 23, 23, 3] := ⟨_, Tryd.underlying25, by kernel_rfl, by kernel_rfl, by kernel_rfl⟩
theorem gTab0 : Tryd.prog.globalNamed "math/bits.deBruijn64tab" = some 2 := by kernel_rfl
theorem gTabType0 : (Tryd.prog.globals[2]?).map (·.type) = some 68 := by kernel_rfl
theorem cellsA0 : Tryd.prog.cellsOf 68 = 64 := by kernel_rfl
theorem cellsE0 : Tryd.prog.cellsOf 5 = 1 := by kernel_rfl
theorem table0 {W : World} (h : laidMetH Tryd.prog Rows.limbMemoryUptoRow.laid W) : TZ W := by
  have hT : Lib.TabIs Tryd.prog W "math/bits.deBruijn64tab" .u8 [0, 1, 56, 2, 57, 49, 28, 3, 61, 58, 42, 50, 38, 29, 17, 4, 62, 47, 59, 36, 45, 43, 51, 22, 53, 39, 33, 30, 24, 18, 12, 5, 63, 55, 48, 27, 60, 41, 37, 16, 46, 35, 44, 21, 52, 32, 23, 11, 54, 26, 40, 15, 34, 20, 31, 10, 25, 14, 19, 9, 13, 8, 7, 6] :=
    Lib.tabIs_of_head (rest := []) gTab0 gTabType0 Tryd.underlying68 Tryd.underlying5 cellsE0 cellsA0 h
  refine ⟨fun j hj => ?_, ?_⟩
  · have e : ∀ j, j < 64 → ([0, 1, 56, 2, 57, 49, 28, 3, 61, 58, 42, 50, 38, 29, 17, 4, 62, 47, 59, 36, 45, 43, 51, 22, 53, 39, 33, 30, 24, 18, 12, 5, 63, 55, 48, 27, 60, 41, 37, 16, 46, 35, 44, 21, 52, 32, 23, 11, 54, 26, 40, 15, 34, 20, 31, 10, 25, 14, 19, 9, 13, 8, 7, 6] : List Int).getD j 0 = ((Lib.deBruijn64tab.getD j 0 : Nat) : Int) := by decide +kernel
    rw [hT.cell gTab0 j (by simpa using hj), e j hj]
  · exact World.block_lt_of_cell? W _ (hT.cell gTab0 0 (by decide))
set_option maxRecDepth 100000 in
theorem contract (H : Type) (enc : TypeId × Value → H) (W : World) (base : Nat) (args : Array Value) (ds gs : List (DataW H)) (before : List MemPlace)
    (hval : ∀ (j : Nat) t v, Tryd.f3.params[j]? = some t → args[j]? = some v → Value.okWide Tryd.prog W .any base t v)
    (hW : DataW.Whole enc Tryd.prog Tryd.f3.params.toList Rows.limbMemorySpec.vars false W args.toList ds gs before) (hk : Rows.uptoSmall H (ds ++ gs) = true) (hL : laidMetH Tryd.prog Rows.limbMemoryUptoRow.laid W) :
    Calls Tryd.prog 3 args W fun e W' => ∃ v, e = .returned v ∧ Rows.limbMemorySpec.post enc Tryd.prog Tryd.f3 false true false false W args v W' := by
  have hW' := hW
  obtain ⟨p, q, hA0, hV, rfl, hfz, hnd⟩ := hW
  have hA : DataW.TrodAll enc Tryd.prog W 0 (fun _ => true) true Tryd.f3.params.toList args.toList ds p := hA0
  rw [Tryd.params3] at hA hval
  obtain ⟨v0, vs0, d0, ds0, p0, q0, hargs0, rfl, rfl, h0, r0⟩ := trodAll_cons hA
  obtain ⟨rfl, rfl, rfl⟩ := trodAll_nil r0
  obtain rfl : args = #[v0] := by cases args; simp_all
  obtain ⟨rfl, rfl⟩ := trodVars_none hV
  have hbulk : Rows.uptoBulkAll [d0] ≤ 1048576 := of_decide_eq_true hk
  simp only [Rows.uptoBulkAll] at hbulk
  obtain ⟨fs0, u0, one0, C0, ft0⟩ := st0
  have fsz0 : fs0.size = 7 := by have := congrArg List.length ft0; simpa using this
  obtain ⟨us0, ys0, n0, rfl, rfl, lu0, ly0, hf0⟩ := open_aggs u0 one0 C0 (hval 0 25 v0 rfl rfl) h0
  obtain ⟨u0_0, u0_1, u0_2, u0_3, u0_4, u0_5, u0_6, rfl⟩ := list7 (lu0.trans fsz0)
  obtain ⟨y0_0, y0_1, y0_2, y0_3, y0_4, y0_5, y0_6, rfl⟩ := list7 (ly0.trans fsz0)
  clear lu0 ly0
  simp only [Rows.uptoBulk, Rows.uptoBulkAll, List.map_cons, List.map_nil] at hbulk
  have g0_0 : ∃ m, DataW.trod enc Tryd.prog W 0 (fun _ => true) true m 22 [u0_0] = some y0_0 := by
    have hj : 0 < fs0.size := by omega
    obtain ⟨u, y, e1, e2, e3⟩ := hf0 0 fs0[0] (Array.getElem?_eq_getElem hj)
    have e4 : fs0[0].type = 22 := by have := congrArg (fun l => l[0]?) ft0; simpa [hj] using this
    injection e1 with e1; injection e2 with e2; subst e1 e2
    exact ⟨_, by rw [e4] at e3; exact e3⟩
  obtain ⟨m0_0, g0_0⟩ := g0_0
  obtain ⟨q0_0, rfl, hq0_0⟩ := word_of Tryd.underlying22 g0_0
  have g0_1 : ∃ m, DataW.trod enc Tryd.prog W 0 (fun _ => true) true m 22 [u0_1] = some y0_1 := by
    have hj : 1 < fs0.size := by omega
    obtain ⟨u, y, e1, e2, e3⟩ := hf0 1 fs0[1] (Array.getElem?_eq_getElem hj)
    have e4 : fs0[1].type = 22 := by have := congrArg (fun l => l[1]?) ft0; simpa [hj] using this
    injection e1 with e1; injection e2 with e2; subst e1 e2
    exact ⟨_, by rw [e4] at e3; exact e3⟩
  obtain ⟨m0_1, g0_1⟩ := g0_1
  obtain ⟨q0_1, rfl, hq0_1⟩ := word_of Tryd.underlying22 g0_1
  have g0_2 : ∃ m, DataW.trod enc Tryd.prog W 0 (fun _ => true) true m 22 [u0_2] = some y0_2 := by
    have hj : 2 < fs0.size := by omega
    obtain ⟨u, y, e1, e2, e3⟩ := hf0 2 fs0[2] (Array.getElem?_eq_getElem hj)
    have e4 : fs0[2].type = 22 := by have := congrArg (fun l => l[2]?) ft0; simpa [hj] using this
    injection e1 with e1; injection e2 with e2; subst e1 e2
    exact ⟨_, by rw [e4] at e3; exact e3⟩
  obtain ⟨m0_2, g0_2⟩ := g0_2
  obtain ⟨q0_2, rfl, hq0_2⟩ := word_of Tryd.underlying22 g0_2
  have g0_3 : ∃ m, DataW.trod enc Tryd.prog W 0 (fun _ => true) true m 22 [u0_3] = some y0_3 := by
    have hj : 3 < fs0.size := by omega
    obtain ⟨u, y, e1, e2, e3⟩ := hf0 3 fs0[3] (Array.getElem?_eq_getElem hj)
    have e4 : fs0[3].type = 22 := by have := congrArg (fun l => l[3]?) ft0; simpa [hj] using this
    injection e1 with e1; injection e2 with e2; subst e1 e2
    exact ⟨_, by rw [e4] at e3; exact e3⟩
  obtain ⟨m0_3, g0_3⟩ := g0_3
  obtain ⟨q0_3, rfl, hq0_3⟩ := word_of Tryd.underlying22 g0_3
  have g0_4 : ∃ m, DataW.trod enc Tryd.prog W 0 (fun _ => true) true m 23 [u0_4] = some y0_4 := by
    have hj : 4 < fs0.size := by omega
    obtain ⟨u, y, e1, e2, e3⟩ := hf0 4 fs0[4] (Array.getElem?_eq_getElem hj)
    have e4 : fs0[4].type = 23 := by have := congrArg (fun l => l[4]?) ft0; simpa [hj] using this
    injection e1 with e1; injection e2 with e2; subst e1 e2
    exact ⟨_, by rw [e4] at e3; exact e3⟩
  obtain ⟨m0_4, g0_4⟩ := g0_4
  obtain ⟨A0_4, n0_4, c0_4, xs0_4, rfl, R0_4, W0_4, b0_4⟩ := words_of Tryd.underlying23 Tryd.underlying22 cells_u64 g0_4
  have g0_5 : ∃ m, DataW.trod enc Tryd.prog W 0 (fun _ => true) true m 23 [u0_5] = some y0_5 := by
    have hj : 5 < fs0.size := by omega
    obtain ⟨u, y, e1, e2, e3⟩ := hf0 5 fs0[5] (Array.getElem?_eq_getElem hj)
    have e4 : fs0[5].type = 23 := by have := congrArg (fun l => l[5]?) ft0; simpa [hj] using this
    injection e1 with e1; injection e2 with e2; subst e1 e2
    exact ⟨_, by rw [e4] at e3; exact e3⟩
  obtain ⟨m0_5, g0_5⟩ := g0_5
  obtain ⟨A0_5, n0_5, c0_5, xs0_5, rfl, R0_5, W0_5, b0_5⟩ := words_of Tryd.underlying23 Tryd.underlying22 cells_u64 g0_5
  have g0_6 : ∃ m, DataW.trod enc Tryd.prog W 0 (fun _ => true) true m 3 [u0_6] = some y0_6 := by
    have hj : 6 < fs0.size := by omega
    obtain ⟨u, y, e1, e2, e3⟩ := hf0 6 fs0[6] (Array.getElem?_eq_getElem hj)
    have e4 : fs0[6].type = 3 := by have := congrArg (fun l => l[6]?) ft0; simpa [hj] using this
    injection e1 with e1; injection e2 with e2; subst e1 e2
    exact ⟨_, by rw [e4] at e3; exact e3⟩
  obtain ⟨m0_6, g0_6⟩ := g0_6
  obtain ⟨z0_6, rfl, lo0_6, hi0_6⟩ := int_of Tryd.underlying3 g0_6
  refine (limbMemory_any (table0 hL) R0_4 R0_5 W0_4 W0_5 hq0_0 hq0_3 (by omega) (by omega)).mono fun e W' ⟨he, hb⟩ => ?_
  subst he
  exact ⟨_, rfl, law_post rfl rfl rfl Tryd.underlying4 kids slices_full (by rw [Tryd.params3]; decide +kernel) hW' hb⟩


/-- a world for the witness: the settled one, the table holding what its initialiser lays -/
noncomputable def laidWorld (os : Os) : World :=
  { World.holding Tryd.prog os ⟨#[], #[], []⟩ with heap := (World.holding Tryd.prog os ⟨#[], #[], []⟩).heap.modify 2 fun
      | .cells _ t frozen => .cells #[.int .u8 0, .int .u8 1, .int .u8 56, .int .u8 2, .int .u8 57, .int .u8 49, .int .u8 28, .int .u8 3, .int .u8 61, .int .u8 58, .int .u8 42, .int .u8 50, .int .u8 38, .int .u8 29, .int .u8 17, .int .u8 4, .int .u8 62, .int .u8 47, .int .u8 59, .int .u8 36, .int .u8 45, .int .u8 43, .int .u8 51, .int .u8 22, .int .u8 53, .int .u8 39, .int .u8 33, .int .u8 30, .int .u8 24, .int .u8 18, .int .u8 12, .int .u8 5, .int .u8 63, .int .u8 55, .int .u8 48, .int .u8 27, .int .u8 60, .int .u8 41, .int .u8 37, .int .u8 16, .int .u8 46, .int .u8 35, .int .u8 44, .int .u8 21, .int .u8 52, .int .u8 32, .int .u8 23, .int .u8 11, .int .u8 54, .int .u8 26, .int .u8 40, .int .u8 15, .int .u8 34, .int .u8 20, .int .u8 31, .int .u8 10, .int .u8 25, .int .u8 14, .int .u8 19, .int .u8 9, .int .u8 13, .int .u8 8, .int .u8 7, .int .u8 6] t frozen
      | o => o }
theorem laid_met (os : Os) : laidMet Tryd.prog Rows.limbMemoryUptoRow.laid ((laidWorld os).forCall (fun _ _ => 0) ⟨#[], #[.agg #[.int .u64 0, .int .u64 0, .int .u64 0, .int .u64 0, .slice none 0 0, .slice none 0 0, .int .i64 0]], []⟩).memory :=
  laidMet_of_run' 8 (by kernel_rfl) (by kernel_rfl)
theorem reads (os : Os) {H : Type} (enc : TypeId × Value → H) : ∃ places, DataW.whole enc Tryd.prog ((laidWorld os).forCall (fun _ _ => 0) ⟨#[], #[.agg #[.int .u64 0, .int .u64 0, .int .u64 0, .int .u64 0, .slice none 0 0, .slice none 0 0, .int .i64 0]], []⟩).memory Tryd.f3.params.toList Rows.limbMemorySpec.vars false #[.agg #[.int .u64 0, .int .u64 0, .int .u64 0, .int .u64 0, .slice none 0 0, .slice none 0 0, .int .i64 0]].toList 8 = some ([.agg [.lit (.int .u64 0), .lit (.int .u64 0), .lit (.int .u64 0), .lit (.int .u64 0), .nil, .nil, .lit (.int .i64 0)]], [], places) :=
  ⟨[], by kernel_rfl⟩

set_option maxRecDepth 100000 in
theorem liftedUpto (os : Os) (started : os.Started) (H : Type) (enc : TypeId × Value → H) (F : Stop.Interp) :
    ReturnsInHanded {} Tryd.checked os 3 .any ((Rows.OpenSpec.upto Rows.limbMemorySpec).preRow enc Tryd.prog Tryd.f3 Rows.limbMemoryUptoRow.domain false Rows.limbMemoryUptoRow.laid) (((Rows.OpenSpec.upto Rows.limbMemorySpec).at F).post enc Tryd.prog Tryd.f3 false true false false) := by
  obtain ⟨places, hx⟩ := reads os enc
  refine returnsInHanded_of_row (C := Tryd.checked) (s := Rows.OpenSpec.upto Rows.limbMemorySpec) own started (by kernel_rfl) Tryd.func3
    (witness_row_at (enc := enc) (C := Tryd.checked) false (laidWorld os) #[.agg #[.int .u64 0, .int .u64 0, .int .u64 0, .int .u64 0, .slice none 0 0, .slice none 0 0, .int .i64 0]] rfl (by kernel_rfl) (by kernel_rfl) (by kernel_rfl)
      (OpenSpec.preRow_of_cond 8 hx (by kernel_rfl) (fun k hk => by cases hk; kernel_rfl) (by kernel_rfl) (laid_met os))) ?_
  intro W base args ds gs before hval hW _ hcond _ hL _ _
  exact contract H enc W base args ds gs before hval hW (hcond _ rfl) hL

theorem saidUpto : Rows.LimbMemoryUptoSaid :=
  OpenClaim.holds_of_cond 3 Tryd.f3 rfl rfl rfl rfl rfl rfl rfl ⟨rfl, rfl, rfl, rfl, rfl⟩ rfl rfl rfl rfl rfl (by kernel_rfl) Tryd.func3 (by kernel_rfl)
    (of_decide_eq_true (by kernel_rfl)) (by unfold Func.isWrapper; first | (rw [if_pos (by decide +kernel)]; kernel_rfl) | (rw [if_neg (by decide +kernel)]; exact ⟨rfl, rfl⟩))
    (fun os started H enc _ F => by rw [OpenClaim.pre_eq_preRow]; exact liftedUpto os started H enc F)

theorem plain (f : FuncId) (fn : Func) (hf : Tryd.pinned.checked.prog.funcNamed "surd/surdlaw01.LimbMemory" = some f) (hfn : Tryd.pinned.checked.prog.funcs[f]? = some fn) :
    false = Tryd.pinned.checked.prog.looks [] ∧ ∀ (j : Nat) t, fn.params[j]? = some t → Tryd.pinned.checked.prog.wantsStandIn t = false := by
  obtain rfl : f = 3 := Option.some.inj ((show Tryd.prog.funcNamed "surd/surdlaw01.LimbMemory" = some 3 by kernel_rfl).symm.trans hf) |>.symm
  obtain rfl : fn = Tryd.f3 := (Option.some.inj (Tryd.func3.symm.trans hfn)).symm
  refine ⟨by kernel_rfl, fun j t ht => ?_⟩
  have h : ∀ t ∈ Tryd.f3.params, Tryd.prog.wantsStandIn t = false := by rw [Tryd.params3]; decide +kernel
  exact h t (Array.mem_of_getElem? ht)

theorem cardUpto : Rows.LimbMemoryUptoCardSaid :=
  Claim7.holds_tied_plain_at .later [] _ _ _ _ saidUpto (fun _ h => by cases h) (by kernel_rfl) (fun _ h => by cases h) limbMemoryUpto_row_tie rfl ⟨rfl, rfl⟩ (by kernel_rfl) rfl plain (by kernel_rfl)
#print axioms cardUpto
end Go.Proofs.YtfpogghlcodncaaDoor.limbMemory
