/-
  Parameters: structs within structs, lists of structs (general).
-/
import Derived.Test.YtphofjinncbaaaaRowX
import Derived.Test.YtphofjinncbaaaaRatX
namespace Go.Proofs.Ytphofjinncbaaaa
open Go.ChangeShapes Go.WideShapes Go.ChangeAt Go.RowKit Go.Deep
set_option linter.unusedVariables false

theorem stInt : ∃ fs, Try.prog.underlying 47 = some (.struct fs) ∧ Try.prog.cellsOf 47 = 2 ∧ (fs.toList.map fun f => (f.type, f.offset)) = [(4, 0), (45, 1)] := ⟨_, Try.underlying47, by kernel_rfl, by kernel_rfl⟩
theorem cells_natQ : Try.prog.cellsOf 45 = 1 := by kernel_rfl
theorem cells_boolQ : Try.prog.cellsOf 4 = 1 := by kernel_rfl
section
variable {H : Type} {enc : TypeId × Value → H}
/-- a struct of two fields -/
theorem struct2_of {P : Program} {t t0 t1 : TypeId} {o0 o1 : Nat} {W : World} {fs : Array Field} {fuel : Nat} {cs : List Value} {x : DataW H × List MemPlace} (hs : P.underlying t = some (.struct fs)) (hf : (fs.toList.map fun f => (f.type, f.offset)) = [(t0, o0), (t1, o1)])
    (h : DataW.trod enc P W 0 (fun _ => true) true fuel t cs = some x) :
    ∃ (y0 y1 : DataW H × List MemPlace) (n : Nat), x.1 = .agg [y0.1, y1.1] ∧ cs.length = P.cellsOf t ∧ DataW.trod enc P W 0 (fun _ => true) true n t0 ((cs.drop o0).take (P.cellsOf t0)) = some y0 ∧ DataW.trod enc P W 0 (fun _ => true) true n t1 ((cs.drop o1).take (P.cellsOf t1)) = some y1 := by
  obtain ⟨xs, n, _, hx, hc, hl, hg⟩ := DataW.trod_struct hs h
  have hsz : fs.size = 2 := by have := congrArg List.length hf; simpa using this
  obtain ⟨f0, e0⟩ : ∃ f, fs[0]? = some f := ⟨fs[0]'(by omega), Array.getElem?_eq_getElem (by omega)⟩
  obtain ⟨f1, e1⟩ : ∃ f, fs[1]? = some f := ⟨fs[1]'(by omega), Array.getElem?_eq_getElem (by omega)⟩
  have g0 : (f0.type, f0.offset) = (t0, o0) := by
    have := congrArg (fun l => l[0]?) hf
    simpa [e0] using this
  have g1 : (f1.type, f1.offset) = (t1, o1) := by
    have := congrArg (fun l => l[1]?) hf
    simpa [e1] using this
  injection g0 with a0 b0
  injection g1 with a1 b1
  match xs, hl.trans hsz with
  | [y0, y1], _ =>
    have h0 := hg 0 f0 e0
    have h1 := hg 1 f1 e1
    rw [a0, b0] at h0
    rw [a1, b1] at h1
    exact ⟨y0, y1, n, by rw [hx]; rfl, hc, h0, h1⟩
theorem bulk_all_app (a b : List (DataW H)) : Rows.uptoBulkAll (a ++ b) = Rows.uptoBulkAll a + Rows.uptoBulkAll b := by
  induction a with
  | nil => simp [Rows.uptoBulkAll]
  | cons x a ih => simp only [List.cons_append, Rows.uptoBulkAll, ih]; omega
theorem bulk_each (D : Nat → DataW H) : ∀ len, (∀ i, i < len → 1 ≤ Rows.uptoBulk (D i)) → len ≤ Rows.uptoBulkAll ((List.range len).map D) ∧ ∀ i, i < len → Rows.uptoBulk (D i) ≤ Rows.uptoBulkAll ((List.range len).map D)
  | 0, _ => ⟨Nat.zero_le _, fun i hi => absurd hi (Nat.not_lt_zero i)⟩
  | len + 1, h => by
    obtain ⟨ih1, ih2⟩ := bulk_each D len (fun i hi => h i (by omega))
    have h1 := h len (by omega)
    rw [List.range_succ, List.map_append, bulk_all_app]
    simp only [List.map_cons, List.map_nil, Rows.uptoBulkAll]
    refine ⟨by omega, fun i hi => ?_⟩
    rcases Nat.lt_or_ge i len with h2 | h2
    · have := ih2 i h2; omega
    · obtain rfl : i = len := by omega
      omega
theorem range_flat {α : Type} (k : Nat) (f : α → List Value) (hf : ∀ x, (f x).length = k) (g : Nat → α) (hk : 0 < k) {len j : Nat} (hj : j < len * k) : (((List.range len).map g).flatMap f)[j]? = (f (g (j / k)))[j % k]? := by
  induction len with
  | zero => omega
  | succ len ih =>
    have hlen : (((List.range len).map g).flatMap f).length = len * k := by
      clear ih hj
      induction len with
      | zero => simp
      | succ n ih => rw [List.range_succ, List.map_append, List.flatMap_append, List.length_append, ih]; simp [hf]; rw [Nat.succ_mul]
    rw [List.range_succ, List.map_append, List.flatMap_append]
    rcases Nat.lt_or_ge j (len * k) with h | h
    · rw [List.getElem?_append_left (by rw [hlen]; exact h)]
      exact ih h
    · rw [List.getElem?_append_right (by rw [hlen]; exact h), hlen]
      have h1 : j / k = len := by
        apply Nat.div_eq_of_lt_le
        · rw [Nat.mul_comm] at h; rw [Nat.mul_comm]; exact h
        · exact hj
      have h2 : j % k = j - len * k := by
        have := Nat.div_add_mod j k
        rw [h1, Nat.mul_comm] at this
        omega
      rw [h1, h2]
      simp
end
end Go.Proofs.Ytphofjinncbaaaa
