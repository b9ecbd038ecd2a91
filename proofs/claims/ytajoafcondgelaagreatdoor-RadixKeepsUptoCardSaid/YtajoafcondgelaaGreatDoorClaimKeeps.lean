/-
  RadixKeeps, proved: for all inputs (of bulk at most 1048576 together) surdlaw06.RadixKeeps answers true and leaves its arguments as they were.
  Conditions: those of the statement RadixKeepsUptoCardSaid, no others: the package variables that its row lists hold what the program's text lays (the card ties them).
-/
import Derived.Test.YtajoafcondgelaaGreatDoorRadK2
import Derived.Test.YtajoafcondgelaaGreatDoorRow
import Derived.Test.YtajoafcondgelaaGreatDoorCards
import Derived.Test.YtajoafcondgelaaGreatDoorTie
import Derived.Deep.DeepHandedRow
import Derived.Lib.LaidTab
namespace Go.Proofs.YtajoafcondgelaaGreatDoor.radixKeeps
open Go.ChangeShapes Go.WideShapes Go.ChangeAt Go.RowKit Go.Deep
open Go.ChangeMaps (open_string)
set_option linter.unusedVariables false

theorem st0 : ∃ fs, Tryz.prog.underlying 26 = some (.struct fs) ∧ oneCellFields Tryz.prog fs = true ∧ Tryz.prog.cellsOf 26 = fs.size ∧ fs.toList.map (·.type) = [23, 3, 9, 24] := ⟨_, Tryz.underlying26, by kernel_rfl, by kernel_rfl, by kernel_rfl⟩
theorem cells_int : Tryz.prog.cellsOf 3 = 1 := by kernel_rfl
theorem ints_of {H : Type} {enc : TypeId × Value → H} {P : Program} {t e : TypeId} {W : World} {v : Value} {fuel : Nat} {y : DataW H × List MemPlace} (ht : P.underlying t = some (.slice e)) (he : P.underlying e = some (.int .i64)) (hc : P.cellsOf e = 1)
    (h : DataW.trod enc P W 0 (fun _ => true) true fuel t [v] = some y) :
    ∃ A n c zs, v = .slice A n c ∧ Rdz W A n c zs ∧ n + 1 ≤ Rows.uptoBulk y.1 := by
  rcases open_ints ht he hc h with ⟨h1, h2⟩ | ⟨a, len, cap, zs, h1, _, h3, h4, h5, h6, h7, h8⟩
  · injection h1 with h1
    exact ⟨none, 0, 0, [], h1, ⟨⟨rfl, Nat.le_refl _⟩, fun h0 => absurd h0 (by omega)⟩, by rw [h2]; simp [Rows.uptoBulk]⟩
  · injection h1 with h1
    have h6 : y.1 = .slice (lits .i64 (zs.take len)) (lits .i64 (zs.drop len)) := by rw [h6]
    have h5' : zs.length = cap := by simpa using h5
    refine ⟨some a, len, cap, zs.take len, h1, ⟨⟨by simp; omega, h3⟩, fun hn => ?_⟩, ?_⟩
    · have hcell := h7 0 (by omega)
      have ha : a.spot = none := by
        cases hsp : a.spot with
        | none => rfl
        | some s =>
          exfalso
          have : (a.add 0) = a := by simp [Addr.add]
          rw [this] at hcell
          simp only [World.cell?] at hcell
          split at hcell
          · simp [hsp] at hcell
          · cases hcell
      obtain ⟨b, off, sp⟩ := a
      simp only at ha
      subst ha
      refine ⟨b, off, rfl, ?_, fun i hi => ?_⟩
      · exact World.block_lt_of_cell? W _ (by rw [addo] at hcell; exact hcell)
      · have := h7 i (by omega)
        rw [addo] at this
        rw [this, zth, List.getD_eq_getElem?_getD, List.getD_eq_getElem?_getD, List.getElem?_take, if_pos hi]
    · rw [h6]
      simp only [Rows.uptoBulk, bulk_lits, List.length_take]
      omega
theorem gTab0 : Tryz.prog.globalNamed "surd/radix.signs" = some 0 := by kernel_rfl
theorem gTabType0 : (Tryz.prog.globals[0]?).map (·.type) = some 92 := by kernel_rfl
theorem cellsA0 : Tryz.prog.cellsOf 92 = 36 := by kernel_rfl
theorem cellsE0 : Tryz.prog.cellsOf 5 = 1 := by kernel_rfl
theorem table0 {W : World} (h : laidMetH Tryz.prog Rows.radixKeepsUptoRow.laid W) : SG W := by
  have hT : Lib.TabIs Tryz.prog W "surd/radix.signs" .u8 [48, 49, 50, 51, 52, 53, 54, 55, 56, 57, 97, 98, 99, 100, 101, 102, 103, 104, 105, 106, 107, 108, 109, 110, 111, 112, 113, 114, 115, 116, 117, 118, 119, 120, 121, 122] :=
    Lib.tabIs_of_head (rest := []) gTab0 gTabType0 Tryz.underlying92 Tryz.underlying5 cellsE0 cellsA0 h
  refine ⟨fun j hj => ?_, ?_⟩
  · have e : ∀ j, j < 36 → ([48, 49, 50, 51, 52, 53, 54, 55, 56, 57, 97, 98, 99, 100, 101, 102, 103, 104, 105, 106, 107, 108, 109, 110, 111, 112, 113, 114, 115, 116, 117, 118, 119, 120, 121, 122] : List Int).getD j 0 = ((sgn j : Nat) : Int) := by decide +kernel
    rw [hT.cell gTab0 j (by simpa using hj), e j hj]
  · exact World.block_lt_of_cell? W _ (hT.cell gTab0 0 (by decide))
set_option maxRecDepth 100000 in
theorem contract (H : Type) (enc : TypeId × Value → H) (W : World) (base : Nat) (args : Array Value) (ds gs : List (DataW H)) (before : List MemPlace)
    (hval : ∀ (j : Nat) t v, Tryz.f3.params[j]? = some t → args[j]? = some v → Value.okWide Tryz.prog W .any base t v)
    (hW : DataW.Whole enc Tryz.prog Tryz.f3.params.toList Rows.radixKeepsSpec.vars false W args.toList ds gs before) (hk : Rows.uptoSmall H (ds ++ gs) = true) (hL : laidMetH Tryz.prog Rows.radixKeepsUptoRow.laid W) :
    Calls Tryz.prog 3 args W fun e W' => ∃ v, e = .returned v ∧ Rows.radixKeepsSpec.post enc Tryz.prog Tryz.f3 false true false false W args v W' := by
  have hW' := hW
  obtain ⟨p, q, hA0, hV, rfl, hfz, hnd⟩ := hW
  have hA : DataW.TrodAll enc Tryz.prog W 0 (fun _ => true) true Tryz.f3.params.toList args.toList ds p := hA0
  rw [Tryz.params3] at hA hval
  obtain ⟨v0, vs0, d0, ds0, p0, q0, hargs0, rfl, rfl, h0, r0⟩ := trodAll_cons hA
  obtain ⟨rfl, rfl, rfl⟩ := trodAll_nil r0
  obtain rfl : args = #[v0] := by cases args; simp_all
  obtain ⟨rfl, rfl⟩ := trodVars_none hV
  have hbulk : Rows.uptoBulkAll [d0] ≤ 1048576 := of_decide_eq_true hk
  simp only [Rows.uptoBulkAll] at hbulk
  obtain ⟨fs0, u0, one0, C0, ft0⟩ := st0
  have fsz0 : fs0.size = 4 := by have := congrArg List.length ft0; simpa using this
  obtain ⟨us0, ys0, n0, rfl, rfl, lu0, ly0, hf0⟩ := open_aggs u0 one0 C0 (hval 0 26 v0 rfl rfl) h0
  obtain ⟨u0_0, u0_1, u0_2, u0_3, rfl⟩ := list4 (lu0.trans fsz0)
  obtain ⟨y0_0, y0_1, y0_2, y0_3, rfl⟩ := list4 (ly0.trans fsz0)
  clear lu0 ly0
  simp only [Rows.uptoBulk, Rows.uptoBulkAll, List.map_cons, List.map_nil] at hbulk
  have g0_0 : ∃ m, DataW.trod enc Tryz.prog W 0 (fun _ => true) true m 23 [u0_0] = some y0_0 := by
    have hj : 0 < fs0.size := by omega
    obtain ⟨u, y, e1, e2, e3⟩ := hf0 0 fs0[0] (Array.getElem?_eq_getElem hj)
    have e4 : fs0[0].type = 23 := by have := congrArg (fun l => l[0]?) ft0; simpa [hj] using this
    injection e1 with e1; injection e2 with e2; subst e1 e2
    exact ⟨_, by rw [e4] at e3; exact e3⟩
  obtain ⟨m0_0, g0_0⟩ := g0_0
  obtain ⟨A0_0, n0_0, c0_0, xs0_0, rfl, R0_0, W0_0, b0_0⟩ := words_of Tryz.underlying23 Tryz.underlying28 cells_u64 g0_0
  have g0_1 : ∃ m, DataW.trod enc Tryz.prog W 0 (fun _ => true) true m 3 [u0_1] = some y0_1 := by
    have hj : 1 < fs0.size := by omega
    obtain ⟨u, y, e1, e2, e3⟩ := hf0 1 fs0[1] (Array.getElem?_eq_getElem hj)
    have e4 : fs0[1].type = 3 := by have := congrArg (fun l => l[1]?) ft0; simpa [hj] using this
    injection e1 with e1; injection e2 with e2; subst e1 e2
    exact ⟨_, by rw [e4] at e3; exact e3⟩
  obtain ⟨m0_1, g0_1⟩ := g0_1
  obtain ⟨z0_1, rfl, lo0_1, hi0_1⟩ := int_of Tryz.underlying3 g0_1
  have g0_2 : ∃ m, DataW.trod enc Tryz.prog W 0 (fun _ => true) true m 9 [u0_2] = some y0_2 := by
    have hj : 2 < fs0.size := by omega
    obtain ⟨u, y, e1, e2, e3⟩ := hf0 2 fs0[2] (Array.getElem?_eq_getElem hj)
    have e4 : fs0[2].type = 9 := by have := congrArg (fun l => l[2]?) ft0; simpa [hj] using this
    injection e1 with e1; injection e2 with e2; subst e1 e2
    exact ⟨_, by rw [e4] at e3; exact e3⟩
  obtain ⟨m0_2, g0_2⟩ := g0_2
  obtain ⟨s0_2, es0_2, ed0_2, m0_2'⟩ := DataW.trod_string Tryz.underlying9 g0_2
  injection es0_2 with es0_2; subst es0_2
  have sl0_2 : s0_2.data.toList.length = s0_2.size := by rw [Array.length_toList]; rfl
  have g0_3 : ∃ m, DataW.trod enc Tryz.prog W 0 (fun _ => true) true m 24 [u0_3] = some y0_3 := by
    have hj : 3 < fs0.size := by omega
    obtain ⟨u, y, e1, e2, e3⟩ := hf0 3 fs0[3] (Array.getElem?_eq_getElem hj)
    have e4 : fs0[3].type = 24 := by have := congrArg (fun l => l[3]?) ft0; simpa [hj] using this
    injection e1 with e1; injection e2 with e2; subst e1 e2
    exact ⟨_, by rw [e4] at e3; exact e3⟩
  obtain ⟨m0_3, g0_3⟩ := g0_3
  obtain ⟨A0_3, n0_3, c0_3, zs0_3, rfl, R0_3, b0_3⟩ := ints_of Tryz.underlying24 Tryz.underlying3 cells_int g0_3
  refine (radixKeeps_any (R0_0.num W0_0 (L := 1048576) (by omega)) R0_3 (table0 hL) (by omega) (by omega) (by omega)).mono fun e W' ⟨he, hb⟩ => ?_
  subst he
  exact ⟨_, rfl, law_post rfl rfl rfl Tryz.underlying4 kids slices_full (by rw [Tryz.params3]; decide +kernel) hW' hb⟩


/-- a world for the witness: the settled one, the table holding what its initialiser lays -/
noncomputable def laidWorld (os : Os) : World :=
  { World.holding Tryz.prog os ⟨#[], #[], []⟩ with heap := (World.holding Tryz.prog os ⟨#[], #[], []⟩).heap.modify 0 fun
      | .cells _ t frozen => .cells #[.int .u8 48, .int .u8 49, .int .u8 50, .int .u8 51, .int .u8 52, .int .u8 53, .int .u8 54, .int .u8 55, .int .u8 56, .int .u8 57, .int .u8 97, .int .u8 98, .int .u8 99, .int .u8 100, .int .u8 101, .int .u8 102, .int .u8 103, .int .u8 104, .int .u8 105, .int .u8 106, .int .u8 107, .int .u8 108, .int .u8 109, .int .u8 110, .int .u8 111, .int .u8 112, .int .u8 113, .int .u8 114, .int .u8 115, .int .u8 116, .int .u8 117, .int .u8 118, .int .u8 119, .int .u8 120, .int .u8 121, .int .u8 122] t frozen
      | o => o }
theorem laid_met (os : Os) : laidMet Tryz.prog Rows.radixKeepsUptoRow.laid ((laidWorld os).forCall (fun _ _ => 0) ⟨#[], #[.agg #[.slice none 0 0, .int .i64 0, .string .empty, .slice none 0 0]], []⟩).memory :=
  laidMet_of_run' 8 (by kernel_rfl) (by kernel_rfl)
theorem reads (os : Os) {H : Type} (enc : TypeId × Value → H) : ∃ places, DataW.whole enc Tryz.prog ((laidWorld os).forCall (fun _ _ => 0) ⟨#[], #[.agg #[.slice none 0 0, .int .i64 0, .string .empty, .slice none 0 0]], []⟩).memory Tryz.f3.params.toList Rows.radixKeepsSpec.vars false #[.agg #[.slice none 0 0, .int .i64 0, .string .empty, .slice none 0 0]].toList 8 = some ([.agg [.nil, .lit (.int .i64 0), .lit (.string []), .nil]], [], places) :=
  ⟨[], by kernel_rfl⟩

set_option maxRecDepth 100000 in
theorem liftedUpto (os : Os) (started : os.Started) (H : Type) (enc : TypeId × Value → H) (F : Stop.Interp) :
    ReturnsInHanded {} Tryz.checked os 3 .any ((Rows.OpenSpec.upto Rows.radixKeepsSpec).preRow enc Tryz.prog Tryz.f3 Rows.radixKeepsUptoRow.domain false Rows.radixKeepsUptoRow.laid) (((Rows.OpenSpec.upto Rows.radixKeepsSpec).at F).post enc Tryz.prog Tryz.f3 false true false false) := by
  obtain ⟨places, hx⟩ := reads os enc
  refine returnsInHanded_of_row (C := Tryz.checked) (s := Rows.OpenSpec.upto Rows.radixKeepsSpec) own started (by kernel_rfl) Tryz.func3
    (witness_row_at (enc := enc) (C := Tryz.checked) false (laidWorld os) #[.agg #[.slice none 0 0, .int .i64 0, .string .empty, .slice none 0 0]] rfl (by kernel_rfl) (by kernel_rfl) (by kernel_rfl)
      (OpenSpec.preRow_of_cond 8 hx (by kernel_rfl) (fun k hk => by cases hk; kernel_rfl) (by kernel_rfl) (laid_met os))) ?_
  intro W base args ds gs before hval hW _ hcond _ hL _ _
  exact contract H enc W base args ds gs before hval hW (hcond _ rfl) hL

theorem saidUpto : Rows.RadixKeepsUptoSaid :=
  OpenClaim.holds_of_cond 3 Tryz.f3 rfl rfl rfl rfl rfl rfl rfl ⟨rfl, rfl, rfl, rfl, rfl⟩ rfl rfl rfl rfl rfl (by kernel_rfl) Tryz.func3 (by kernel_rfl)
    (of_decide_eq_true (by kernel_rfl)) (by unfold Func.isWrapper; first | (rw [if_pos (by decide +kernel)]; kernel_rfl) | (rw [if_neg (by decide +kernel)]; exact ⟨rfl, rfl⟩))
    (fun os started H enc _ F => by rw [OpenClaim.pre_eq_preRow]; exact liftedUpto os started H enc F)

theorem plain (f : FuncId) (fn : Func) (hf : Tryz.pinned.checked.prog.funcNamed "surd/surdlaw06.RadixKeeps" = some f) (hfn : Tryz.pinned.checked.prog.funcs[f]? = some fn) :
    false = Tryz.pinned.checked.prog.looks [] ∧ ∀ (j : Nat) t, fn.params[j]? = some t → Tryz.pinned.checked.prog.wantsStandIn t = false := by
  obtain rfl : f = 3 := Option.some.inj ((show Tryz.prog.funcNamed "surd/surdlaw06.RadixKeeps" = some 3 by kernel_rfl).symm.trans hf) |>.symm
  obtain rfl : fn = Tryz.f3 := (Option.some.inj (Tryz.func3.symm.trans hfn)).symm
  refine ⟨by kernel_rfl, fun j t ht => ?_⟩
  have h : ∀ t ∈ Tryz.f3.params, Tryz.prog.wantsStandIn t = false := by rw [Tryz.params3]; decide +kernel
  exact h t (Array.mem_of_getElem? ht)

theorem cardUpto : Rows.RadixKeepsUptoCardSaid :=
  Claim7.holds_tied_plain_at .later [] _ _ _ _ saidUpto (fun _ h => by cases h) (by kernel_rfl) (fun _ h => by cases h) radixKeepsUpto_row_tie rfl ⟨rfl, rfl⟩ (by kernel_rfl) rfl plain (by kernel_rfl)
#print axioms cardUpto
end Go.Proofs.YtajoafcondgelaaGreatDoor.radixKeeps
