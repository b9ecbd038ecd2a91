/-
  surdtop.Place.
-/
import Derived.Test.YtphofjinncbaaaaRowZ
import Derived.Test.YtphofjinncbaaaaGaA
namespace Go.Proofs.Ytphofjinncbaaaa
open Go.ChangeShapes Go.WideShapes Go.ChangeAt Go.RowKit Go.Deep
set_option linter.unusedVariables false

theorem stPlace : ∃ fs, Try.prog.underlying 66 = some (.struct fs) ∧ oneCellFields Try.prog fs = true ∧ Try.prog.cellsOf 66 = fs.size ∧ fs.toList.map (·.type) = [3, 3, 3, 3] := ⟨_, Try.underlying66, by kernel_rfl, by kernel_rfl, by kernel_rfl⟩
section
variable {H : Type} {enc : TypeId × Value → H}
set_option maxRecDepth 100000 in
theorem open_place {W : World} {v : Value} {d : DataW H} {ps : List MemPlace} {r : Reach} {b0 : Nat} (hok : Value.okWide Try.prog W r b0 66 v) (h : DataW.Trod enc Try.prog W 0 (fun _ => true) true 66 v d ps) :
    ∃ (a b c e : Int), v = .agg #[.int .i64 a, .int .i64 b, .int .i64 c, .int .i64 e] ∧ G64 (a, b) := by
  obtain ⟨fs, u, one, C, ft⟩ := stPlace
  have fsz : fs.size = 4 := by have := congrArg List.length ft; simpa using this
  obtain ⟨us, ys, n, rfl, rfl, lu, ly, hf⟩ := open_aggs u one C hok h
  obtain ⟨u0, u1, u2, u3, rfl⟩ := listZ4 (lu.trans fsz)
  have get : ∀ j (hj : j < 4), ∃ u y m, ([u0, u1, u2, u3] : List Value)[j]? = some u ∧ DataW.trod enc Try.prog W 0 (fun _ => true) true m 3 [u] = some y := fun j hj => by
    have hj2 : j < fs.size := by omega
    obtain ⟨u, y, e1, e2, e3⟩ := hf j fs[j] (Array.getElem?_eq_getElem hj2)
    have e4 : fs[j].type = 3 := by
      have := congrArg (fun l => l[j]?) ft
      have h5 : ([3, 3, 3, 3] : List TypeId)[j]? = some 3 := by
        match j, hj with
        | 0, _ => rfl
        | 1, _ => rfl
        | 2, _ => rfl
        | 3, _ => rfl
      simp only [h5] at this
      simpa [hj2] using this
    exact ⟨u, y, _, e1, by rw [e4] at e3; exact e3⟩
  obtain ⟨_, y0, m0, e0, g0⟩ := get 0 (by omega)
  obtain ⟨_, y1, m1, e1, g1⟩ := get 1 (by omega)
  obtain ⟨_, y2, m2, e2, g2⟩ := get 2 (by omega)
  obtain ⟨_, y3, m3, e3, g3⟩ := get 3 (by omega)
  injection e0 with e0
  injection e1 with e1
  injection e2 with e2
  injection e3 with e3
  subst e0 e1 e2 e3
  obtain ⟨z0, rfl, l0, k0⟩ := int_of Try.underlying3 g0
  obtain ⟨z1, rfl, l1, k1⟩ := int_of Try.underlying3 g1
  obtain ⟨z2, rfl, l2, k2⟩ := int_of Try.underlying3 g2
  obtain ⟨z3, rfl, l3, k3⟩ := int_of Try.underlying3 g3
  exact ⟨z0, z1, z2, z3, rfl, ⟨l0, k0⟩, ⟨l1, k1⟩⟩
end
end Go.Proofs.Ytphofjinncbaaaa
