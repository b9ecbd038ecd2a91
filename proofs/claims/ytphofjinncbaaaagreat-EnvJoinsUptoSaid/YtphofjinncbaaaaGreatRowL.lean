/-
  A parameter that is a list of numbers.
-/
import Derived.Test.YtphofjinncbaaaaGreatRow
import Derived.Test.YtphofjinncbaaaaGreatPowX
import Derived.Deep.Slices
namespace Go.Proofs.YtphofjinncbaaaaGreat
open Go.ChangeShapes Go.WideShapes Go.ChangeAt Go.RowKit Go.Deep
set_option linter.unusedVariables false
theorem cells_nat : Tryz.prog.cellsOf 58 = 1 := by kernel_rfl
section
variable {H : Type} {enc : TypeId × Value → H}
theorem bulk_range (D : Nat → DataW H) (l : Nat → Nat) : ∀ len, (∀ i, i < len → l i + 1 ≤ Rows.uptoBulk (D i)) → lsum ((List.range len).map l) + len ≤ Rows.uptoBulkAll ((List.range len).map D)
  | 0, _ => by simp [lsum, Rows.uptoBulkAll]
  | len + 1, h => by
    have ih := bulk_range D l len (fun i hi => h i (by omega))
    have h1 := h len (by omega)
    have app : ∀ (a b : List (DataW H)), Rows.uptoBulkAll (a ++ b) = Rows.uptoBulkAll a + Rows.uptoBulkAll b := by
      intro a b
      induction a with
      | nil => simp [Rows.uptoBulkAll]
      | cons x a ih => simp only [List.cons_append, Rows.uptoBulkAll, ih]; omega
    rw [List.range_succ, List.map_append, List.map_append, lsum_append, app]
    simp only [List.map_cons, List.map_nil, lsum, Rows.uptoBulkAll]
    omega
theorem nth_range (l : Nat → Nat) {len i : Nat} (h : i < len) : nth ((List.range len).map l) i = l i := by
  rw [nth_lt (by simpa using h)]; simp
/-- a cell that reads as a list of numbers -/
theorem nums_of {P : Program} {t e e2 : TypeId} {W : World} {v : Value} {fuel : Nat} {y : DataW H × List MemPlace} (ht : P.underlying t = some (.slice e)) (he : P.underlying e = some (.slice e2)) (he2 : P.underlying e2 = some (.int .u64)) (hc : P.cellsOf e = 1) (hc2 : P.cellsOf e2 = 1)
    (h : DataW.trod enc P W 0 (fun _ => true) true fuel t [v] = some y) :
    ∃ A n c xs ls, v = .slice A n c ∧ Nums W A n c xs ls ∧ n + lsum ls ≤ Rows.uptoBulk y.1 := by
  rcases open_slice ht h with ⟨h1, h2⟩ | ⟨a, len, cap, m, k, Df, Pl, h1, _, h3, h4, h5, h6, h7⟩
  · injection h1 with h1
    exact ⟨none, 0, 0, [], [], h1, ⟨⟨rfl, rfl, Nat.le_refl _⟩, fun h => absurd h (by omega)⟩, by simp [lsum]⟩
  · injection h1 with h1
    have h5' : m = cap := by simpa using h5
    have each : ∀ i, i < len → ∃ p : Nat × Nat, ∃ u, W.cell? (a.add i) = some u ∧ Num W u p.1 p.2 ∧ p.2 + 1 ≤ Rows.uptoBulk (Df i) := by
      intro i hi
      obtain ⟨cs', g1, g2⟩ := h7 i (by omega)
      rw [hc, Nat.mul_one] at g1
      obtain ⟨_, hl, hat⟩ := World.cells?_some g1
      have hcs : ∃ u, cs' = [u] := by
        match cs', hl with
        | [u], _ => exact ⟨u, rfl⟩
      obtain ⟨u, rfl⟩ := hcs
      have hu := cell_of_cells?_one g1
      obtain ⟨A, n, c, xs, rfl, R, Wx, b⟩ := words_of he he2 hc2 g2
      exact ⟨(val YtphofjinncbaaaaGreat.W xs, n), _, hu, R.num Wx (Nat.le_refl _), b⟩
    obtain ⟨f, hf⟩ := choose_lt each
    refine ⟨some a, len, cap, (List.range len).map fun i => (f i).1, (List.range len).map fun i => (f i).2, h1, ⟨⟨by simp, by simp, h3⟩, fun hn => ?_⟩, ?_⟩
    · obtain ⟨u0, hu0, _⟩ := hf 0 hn
      have ha : a.spot = none := by
        cases hsp : a.spot with
        | none => rfl
        | some s =>
          exfalso
          have : (a.add 0) = a := by simp [Addr.add]
          rw [this] at hu0
          simp only [World.cell?] at hu0
          split at hu0
          · simp [hsp] at hu0
          · cases hu0
      obtain ⟨b, off, sp⟩ := a
      simp only at ha
      subst ha
      refine ⟨b, off, rfl, ?_, fun i hi => ?_⟩
      · exact World.block_lt_of_cell? W _ (by rw [addo] at hu0; exact hu0)
      · obtain ⟨u, g1, g2, _⟩ := hf i hi
        rw [addo] at g1
        refine ⟨u, g1, ?_⟩
        rw [nth_range _ hi, nth_range _ hi]
        exact g2
    · have hb := bulk_range Df (fun i => (f i).2) len (fun i hi => by obtain ⟨u, _, _, g⟩ := hf i hi; exact g)
      have e : y.1 = .slice ((List.range len).map Df) ((List.range (m - len)).map fun j => Df (len + j)) := by rw [h6]
      rw [e]
      simp only [Rows.uptoBulk]
      omega
theorem open_nums {P : Program} {t e e2 : TypeId} {W : World} {v : Value} {d : DataW H} {ps : List MemPlace} (ht : P.underlying t = some (.slice e)) (he : P.underlying e = some (.slice e2)) (he2 : P.underlying e2 = some (.int .u64)) (hc : P.cellsOf e = 1) (hc2 : P.cellsOf e2 = 1)
    {r : Reach} {b0 : Nat} (hok : Value.okWide P W r b0 t v) (h : DataW.Trod enc P W 0 (fun _ => true) true t v d ps) :
    ∃ A n c xs ls, v = .slice A n c ∧ Nums W A n c xs ls ∧ n + lsum ls ≤ Rows.uptoBulk d := by
  obtain ⟨a0, l0, c0, rfl⟩ := okWide_slice ht hok
  obtain ⟨fuel, h⟩ := h
  have hv : (Value.slice a0 l0 c0).cells.toList = [Value.slice a0 l0 c0] := rfl
  rw [hv] at h
  exact nums_of ht he he2 hc hc2 h
end
end Go.Proofs.YtphofjinncbaaaaGreat
