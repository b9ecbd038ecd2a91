/-
  A parameter that is a polynomial over the integers; surdtop.Spots.
-/
import Derived.Test.YtphofjinncbaaaaRowG
import Derived.Test.YtphofjinncbaaaaZpX
namespace Go.Proofs.Ytphofjinncbaaaa
open Go.ChangeShapes Go.WideShapes Go.ChangeAt Go.RowKit Go.Deep
set_option linter.unusedVariables false

theorem stSpots : ∃ fs, Try.prog.underlying 49 = some (.struct fs) ∧ Try.prog.cellsOf 49 = 4 ∧ (fs.toList.map fun f => (f.type, f.offset)) = [(47, 0), (47, 2)] := ⟨_, Try.underlying49, by kernel_rfl, by kernel_rfl⟩
section
variable {H : Type} {enc : TypeId × Value → H}
theorem listZ2 {cs : List Value} (h : cs.length = 2) : ∃ a b, cs = [a, b] := by
  match cs, h with
  | [a, b], _ => exact ⟨a, b, rfl⟩
theorem listZ4 {cs : List Value} (h : cs.length = 4) : ∃ a b c d, cs = [a, b, c, d] := by
  match cs, h with
  | [a, b, c, d], _ => exact ⟨a, b, c, d, rfl⟩
/-- an integer's cells -/
theorem intz_of {W : World} {fuel : Nat} {cs : List Value} {x : DataW H × List MemPlace} (h : DataW.trod enc Try.prog W 0 (fun _ => true) true fuel 47 cs = some x) :
    ∃ (hd : Hz) (r : Zc), cs = zhv hd ∧ RawZ (Rows.uptoBulk x.1) W hd r ∧ 1 ≤ Rows.uptoBulk x.1 := by
  obtain ⟨gs, u1, k1, f1⟩ := stInt
  obtain ⟨z0, z1, n2, hy, hl2, g0, g1⟩ := struct2_of u1 f1 h
  obtain ⟨a, b, rfl⟩ := listZ2 (hl2.trans k1)
  rw [cells_boolQ] at g0
  rw [cells_natQ] at g1
  simp only [List.drop_zero, List.take_succ_cons, List.take_zero, List.drop_succ_cons] at g0 g1
  obtain ⟨s, e, hz0⟩ := DataW.trod_bool Try.underlying4 g0
  injection e with e _
  subst e
  obtain ⟨A1, n1, c1, xs1, rfl, R1, W1, b1⟩ := words_of Try.underlying45 Try.underlying76 cells_u64 g1
  have hb2 : Rows.uptoBulk x.1 = Rows.uptoBulk z0.1 + (Rows.uptoBulk z1.1 + 0) + 1 := by rw [hy]; simp [Rows.uptoBulk, Rows.uptoBulkAll]
  exact ⟨(s, (A1, n1, c1)), (s, val Ytphofjinncbaaaa.W xs1), rfl, ⟨rfl, (R1.num W1 (Nat.le_refl _)).mono (by omega)⟩, by omega⟩
set_option maxRecDepth 100000 in
/-- a cell that reads as a polynomial -/
theorem zpoly_of {W : World} {v : Value} {fuel : Nat} {y : DataW H × List MemPlace} (h : DataW.trod enc Try.prog W 0 (fun _ => true) true fuel 43 [v] = some y) :
    ∃ A n c rs, v = .slice A n c ∧ ZPI (Rows.uptoBulk y.1) W (.slice A n c) rs ∧ n + 1 ≤ Rows.uptoBulk y.1 := by
  obtain ⟨fs, u0, hk0, f0⟩ := stInt
  rcases open_slice Try.underlying43 h with ⟨h1, h2⟩ | ⟨a, len, cap, m, k, Df, Pl, h1, _, h3, h4, h5, h6, h7⟩
  · injection h1 with h1
    exact ⟨none, 0, 0, [], h1, ZPI.nil, by rw [h2]; simp [Rows.uptoBulk]⟩
  · injection h1 with h1
    clear h4
    have h5' : m = cap := by simpa using h5
    have each : ∀ i, i < len → ∃ p : Hz × Zc, (∀ j, j < 2 → W.cell? ((a.add (i * 2)).add j) = (zhv p.1)[j]?) ∧ RawZ (Rows.uptoBulk (Df i)) W p.1 p.2 ∧ 1 ≤ Rows.uptoBulk (Df i) := by
      intro i hi
      obtain ⟨cs', g1, g2⟩ := h7 i (by omega)
      rw [hk0] at g1
      obtain ⟨_, hl, hat⟩ := World.cells?_some g1
      obtain ⟨hd, r, rfl, hr, hb⟩ := intz_of g2
      exact ⟨(hd, r), hat, hr, hb⟩
    obtain ⟨f, hf⟩ := choose_lt each
    have e : y.1 = .slice ((List.range len).map Df) ((List.range (m - len)).map fun j => Df (len + j)) := by rw [h6]
    have hb := bulk_each Df len (fun i hi => (hf i hi).2.2)
    have hB : Rows.uptoBulk y.1 = Rows.uptoBulkAll ((List.range len).map Df) + Rows.uptoBulkAll ((List.range (m - len)).map fun j => Df (len + j)) + 1 := by rw [e]; simp only [Rows.uptoBulk]
    have flatl : ∀ l : List Hz, (l.flatMap zhv).length = l.length * 2 := by
      intro l
      induction l with
      | nil => rfl
      | cons y l ih => rw [List.flatMap_cons, List.length_append, ih, zhv_len, List.length_cons]; omega
    refine ⟨some a, len, cap, (List.range len).map fun i => (f i).2, h1, ⟨some a, len, cap, (List.range len).map fun i => (f i).1, rfl, ⟨⟨by rw [flatl]; simp, h3⟩, fun hn => ?_⟩, by simp, by simp, fun i hd r e1 e2 => ?_⟩, by omega⟩
    · have hu0 := (hf 0 hn).1 0 (by omega)
      have hu0' : W.cell? (a.add 0) = some (.bool (f 0).1.1) := by
        have e0 : (a.add (0 * 2)).add 0 = a.add 0 := by simp [Addr.add]
        rw [← e0, hu0]; rfl
      have ha : a.spot = none := by
        cases hsp : a.spot with
        | none => rfl
        | some s =>
          exfalso
          have : (a.add 0) = a := by simp [Addr.add]
          rw [this] at hu0'
          simp only [World.cell?] at hu0'
          split at hu0'
          · simp [hsp] at hu0'
          · cases hu0'
      obtain ⟨b, off, sp⟩ := a
      simp only at ha
      subst ha
      refine ⟨b, off, rfl, World.block_lt_of_cell? W _ (by rw [addo] at hu0'; exact hu0'), fun i hi => ?_⟩
      have hi2 : i / 2 < len := by omega
      have h8 := (hf (i / 2) hi2).1 (i % 2) (by omega)
      rw [addo, addo] at h8
      rw [range_flat 2 zhv zhv_len (fun i => (f i).1) (by omega) hi, ← h8]
      rw [Nat.add_assoc, Nat.div_add_mod']
    · rw [List.getElem?_map] at e1 e2
      obtain ⟨i1, e3, e4⟩ := Option.map_eq_some_iff.1 e1
      obtain ⟨i2, e5, e6⟩ := Option.map_eq_some_iff.1 e2
      have e7 := e3.symm.trans e5
      injection e7 with e7
      subst e7
      subst e4 e6
      have hi : i < len := by have := (List.getElem?_eq_some_iff.1 e3).1; simpa using this
      have e8 : i1 = i := by rw [List.getElem?_range hi] at e3; injection e3 with e3; exact e3.symm
      subst e8
      exact (hf i1 hi).2.1.mono (Nat.le_trans (hb.2 i1 hi) (by rw [hB]; exact Nat.le_succ_of_le (Nat.le_add_right _ _)))
set_option maxRecDepth 100000 in
theorem open_zpoly {W : World} {v : Value} {d : DataW H} {ps : List MemPlace} {r : Reach} {b0 : Nat} (hok : Value.okWide Try.prog W r b0 43 v) (h : DataW.Trod enc Try.prog W 0 (fun _ => true) true 43 v d ps) :
    ∃ A n c rs, v = .slice A n c ∧ ZPI (Rows.uptoBulk d) W (.slice A n c) rs ∧ n + 1 ≤ Rows.uptoBulk d := by
  obtain ⟨a0, l0, c0, rfl⟩ := okWide_slice Try.underlying43 hok
  obtain ⟨fuel, h⟩ := h
  have hv : (Value.slice a0 l0 c0).cells.toList = [Value.slice a0 l0 c0] := rfl
  rw [hv] at h
  exact zpoly_of h
set_option maxRecDepth 100000 in
theorem open_spots {W : World} {v : Value} {d : DataW H} {ps : List MemPlace} {r : Reach} {b0 : Nat} (hok : Value.okWide Try.prog W r b0 49 v) (h : DataW.Trod enc Try.prog W 0 (fun _ => true) true 49 v d ps) :
    ∃ (ha hx : Hz) (ra rx : Zc), v = .agg #[.bool ha.1, shv ha.2, .bool hx.1, shv hx.2] ∧ RawZ (Rows.uptoBulk d) W ha ra ∧ RawZ (Rows.uptoBulk d) W hx rx := by
  obtain ⟨fs, u0, k0, f0⟩ := stSpots
  obtain ⟨gs, u1, k1, f1⟩ := stInt
  obtain ⟨cs, rfl, hsz⟩ := okWide_struct u0 hok
  obtain ⟨fuel, h⟩ := h
  have hv : (Value.agg cs).cells.toList = cs.toList := rfl
  rw [hv] at h
  obtain ⟨y0, y1, n, hx, hl, h0, h1⟩ := struct2_of u0 f0 h
  obtain ⟨a, b, c, e, hcs⟩ := listZ4 (hl.trans k0)
  rw [hcs, k1] at h0 h1
  simp only [List.drop_zero, List.take_succ_cons, List.take_zero, List.drop_succ_cons] at h0 h1
  obtain ⟨ha, ra, e1, R1, b1⟩ := intz_of h0
  obtain ⟨hx', rx, e2, R2, b2⟩ := intz_of h1
  have hb : Rows.uptoBulk d = Rows.uptoBulk y0.1 + (Rows.uptoBulk y1.1 + 0) + 1 := by rw [show d = _ from hx]; simp [Rows.uptoBulk, Rows.uptoBulkAll]
  refine ⟨ha, hx', ra, rx, ?_, R1.mono (by omega), R2.mono (by omega)⟩
  have e3 : cs.toList = [.bool ha.1, shv ha.2, .bool hx'.1, shv hx'.2] := by
    rw [hcs]
    unfold zhv at e1 e2
    injection e1 with e11 e12
    injection e12 with e12 _
    injection e2 with e21 e22
    injection e22 with e22 _
    rw [e11, e12, e21, e22]
  congr 1
  rw [← Array.toArray_toList (xs := cs), e3]
end
end Go.Proofs.Ytphofjinncbaaaa
