/-
  Parameters: structs within structs, lists of structs (general). A parameter that is a polynomial over the rationals. A parameter that is a list of bindings.
-/
import Derived.Test.YtamfhmmcnlollaaGreatRowX
import Derived.Test.YtamfhmmcnlollaaGreatRatL
import Derived.Test.YtamfhmmcnlollaaGreatEnvML
namespace Go.Proofs.YtamfhmmcnlollaaGreat
open Go.ChangeShapes Go.WideShapes Go.ChangeAt Go.RowKit Go.Deep
set_option linter.unusedVariables false

theorem stInt : ∃ fs, Tryz.prog.underlying 60 = some (.struct fs) ∧ Tryz.prog.cellsOf 60 = 2 ∧ (fs.toList.map fun f => (f.type, f.offset)) = [(4, 0), (23, 1)] := ⟨_, Tryz.underlying60, by kernel_rfl, by kernel_rfl⟩
theorem cells_natQ : Tryz.prog.cellsOf 23 = 1 := by kernel_rfl
theorem cells_boolQ : Tryz.prog.cellsOf 4 = 1 := by kernel_rfl
section
variable {H : Type} {enc : TypeId × Value → H}
/-- a struct of two fields -/
theorem struct2_of {P : Program} {t t0 t1 : TypeId} {o0 o1 : Nat} {W : World} {fs : Array Field} {fuel : Nat} {cs : List Value} {x : DataW H × List MemPlace} (hs : P.underlying t = some (.struct fs)) (hf : (fs.toList.map fun f => (f.type, f.offset)) = [(t0, o0), (t1, o1)])
    (h : DataW.trod enc P W 0 (fun _ => true) true fuel t cs = some x) :
    ∃ (y0 y1 : DataW H × List MemPlace) (n : Nat), x.1 = .agg [y0.1, y1.1] ∧ cs.length = P.cellsOf t ∧ DataW.trod enc P W 0 (fun _ => true) true n t0 ((cs.drop o0).take (P.cellsOf t0)) = some y0 ∧ DataW.trod enc P W 0 (fun _ => true) true n t1 ((cs.drop o1).take (P.cellsOf t1)) = some y1 := by
  obtain ⟨xs, n, _, hx, hc, hl, hg⟩ := DataW.trod_struct hs h
  have hsz : fs.size = 2 := by have := congrArg List.length hf; simpa using this
  obtain ⟨f0, e0⟩ : ∃ f, fs[0]? = some f := ⟨fs[0]'(by omega), Array.getElem?_eq_getElem (by omega)⟩
  obtain ⟨f1, e1⟩ : ∃ f, fs[1]? = some f := ⟨fs[1]'(by omega), Array.getElem?_eq_getElem (by omega)⟩
  have g0 : (f0.type, f0.offset) = (t0, o0) := by
    have := congrArg (fun l => l[0]?) hf
    simpa [e0] using this
  have g1 : (f1.type, f1.offset) = (t1, o1) := by
    have := congrArg (fun l => l[1]?) hf
    simpa [e1] using this
  injection g0 with a0 b0
  injection g1 with a1 b1
  match xs, hl.trans hsz with
  | [y0, y1], _ =>
    have h0 := hg 0 f0 e0
    have h1 := hg 1 f1 e1
    rw [a0, b0] at h0
    rw [a1, b1] at h1
    exact ⟨y0, y1, n, by rw [hx]; rfl, hc, h0, h1⟩
theorem bulk_all_app (a b : List (DataW H)) : Rows.uptoBulkAll (a ++ b) = Rows.uptoBulkAll a + Rows.uptoBulkAll b := by
  induction a with
  | nil => simp [Rows.uptoBulkAll]
  | cons x a ih => simp only [List.cons_append, Rows.uptoBulkAll, ih]; omega
theorem bulk_each (D : Nat → DataW H) : ∀ len, (∀ i, i < len → 1 ≤ Rows.uptoBulk (D i)) → len ≤ Rows.uptoBulkAll ((List.range len).map D) ∧ ∀ i, i < len → Rows.uptoBulk (D i) ≤ Rows.uptoBulkAll ((List.range len).map D)
  | 0, _ => ⟨Nat.zero_le _, fun i hi => absurd hi (Nat.not_lt_zero i)⟩
  | len + 1, h => by
    obtain ⟨ih1, ih2⟩ := bulk_each D len (fun i hi => h i (by omega))
    have h1 := h len (by omega)
    rw [List.range_succ, List.map_append, bulk_all_app]
    simp only [List.map_cons, List.map_nil, Rows.uptoBulkAll]
    refine ⟨by omega, fun i hi => ?_⟩
    rcases Nat.lt_or_ge i len with h2 | h2
    · have := ih2 i h2; omega
    · obtain rfl : i = len := by omega
      omega
theorem range_flat {α : Type} (k : Nat) (f : α → List Value) (hf : ∀ x, (f x).length = k) (g : Nat → α) (hk : 0 < k) {len j : Nat} (hj : j < len * k) : (((List.range len).map g).flatMap f)[j]? = (f (g (j / k)))[j % k]? := by
  induction len with
  | zero => omega
  | succ len ih =>
    have hlen : (((List.range len).map g).flatMap f).length = len * k := by
      clear ih hj
      induction len with
      | zero => simp
      | succ n ih => rw [List.range_succ, List.map_append, List.flatMap_append, List.length_append, ih]; simp [hf]; rw [Nat.succ_mul]
    rw [List.range_succ, List.map_append, List.flatMap_append]
    rcases Nat.lt_or_ge j (len * k) with h | h
    · rw [List.getElem?_append_left (by rw [hlen]; exact h)]
      exact ih h
    · rw [List.getElem?_append_right (by rw [hlen]; exact h), hlen]
      have h1 : j / k = len := by
        apply Nat.div_eq_of_lt_le
        · rw [Nat.mul_comm] at h; rw [Nat.mul_comm]; exact h
        · exact hj
      have h2 : j % k = j - len * k := by
        have := Nat.div_add_mod j k
        rw [h1, Nat.mul_comm] at this
        omega
      rw [h1, h2]
      simp
end
end Go.Proofs.YtamfhmmcnlollaaGreat
namespace Go.Proofs.YtamfhmmcnlollaaGreat
open Go.ChangeShapes Go.WideShapes Go.ChangeAt Go.RowKit Go.Deep
set_option linter.unusedVariables false

theorem stRat : ∃ fs, Tryz.prog.underlying 62 = some (.struct fs) ∧ Tryz.prog.cellsOf 62 = 3 ∧ (fs.toList.map fun f => (f.type, f.offset)) = [(60, 0), (23, 2)] := ⟨_, Tryz.underlying62, by kernel_rfl, by kernel_rfl⟩
section
variable {H : Type} {enc : TypeId × Value → H}
theorem listQ3 {cs : List Value} (h : cs.length = 3) : ∃ a b c, cs = [a, b, c] := by
  match cs, h with
  | [a, b, c], _ => exact ⟨a, b, c, rfl⟩
/-- a rational's cells -/
theorem rat_of {W : World} {fuel : Nat} {cs : List Value} {x : DataW H × List MemPlace} (h : DataW.trod enc Tryz.prog W 0 (fun _ => true) true fuel 62 cs = some x) :
    ∃ (hd : Hr) (r : Cf), cs = hrv hd ∧ RawR (Rows.uptoBulk x.1) W hd r ∧ 1 ≤ Rows.uptoBulk x.1 := by
  obtain ⟨fs, u0, k0, f0⟩ := stRat
  obtain ⟨gs, u1, k1, f1⟩ := stInt
  obtain ⟨y0, y1, n, hx, hl, h0, h1⟩ := struct2_of u0 f0 h
  obtain ⟨a, b, c, rfl⟩ := listQ3 (hl.trans k0)
  rw [k1] at h0
  rw [cells_natQ] at h1
  obtain ⟨z0, z1, n2, hy, hl2, g0, g1⟩ := struct2_of u1 f1 h0
  rw [cells_boolQ] at g0
  rw [cells_natQ] at g1
  simp only [List.drop_zero, List.take_succ_cons, List.take_zero, List.drop_succ_cons] at h1 g0 g1
  obtain ⟨s, e, hz0⟩ := DataW.trod_bool Tryz.underlying4 g0
  injection e with e _
  subst e
  obtain ⟨A1, n1, c1, xs1, rfl, R1, W1, b1⟩ := words_of Tryz.underlying23 Tryz.underlying41 cells_u64 g1
  obtain ⟨A2, m2, c2, xs2, rfl, R2, W2, b2⟩ := words_of Tryz.underlying23 Tryz.underlying41 cells_u64 h1
  have hb : Rows.uptoBulk x.1 = Rows.uptoBulk y0.1 + (Rows.uptoBulk y1.1 + 0) + 1 := by rw [hx]; simp [Rows.uptoBulk, Rows.uptoBulkAll]
  have hb2 : Rows.uptoBulk y0.1 = Rows.uptoBulk z0.1 + (Rows.uptoBulk z1.1 + 0) + 1 := by rw [hy]; simp [Rows.uptoBulk, Rows.uptoBulkAll]
  refine ⟨(s, (A1, n1, c1), (A2, m2, c2)), (s, val YtamfhmmcnlollaaGreat.W xs1, val YtamfhmmcnlollaaGreat.W xs2), rfl, ⟨rfl, (R1.num W1 (Nat.le_refl _)).mono (by omega), (R2.num W2 (Nat.le_refl _)).mono (by omega)⟩, by omega⟩
set_option maxRecDepth 100000 in
/-- a cell that reads as a polynomial -/
theorem poly_of {W : World} {v : Value} {fuel : Nat} {y : DataW H × List MemPlace} (h : DataW.trod enc Tryz.prog W 0 (fun _ => true) true fuel 46 [v] = some y) :
    ∃ A n c rs, v = .slice A n c ∧ PolyI (Rows.uptoBulk y.1) W (.slice A n c) rs ∧ n + 1 ≤ Rows.uptoBulk y.1 := by
  obtain ⟨fs, u0, hk0, f0⟩ := stRat
  rcases open_slice Tryz.underlying46 h with ⟨h1, h2⟩ | ⟨a, len, cap, m, k, Df, Pl, h1, _, h3, h4, h5, h6, h7⟩
  · injection h1 with h1
    exact ⟨none, 0, 0, [], h1, ⟨none, 0, 0, [], rfl, RdK.nil, rfl, All2.nil⟩, by rw [h2]; simp [Rows.uptoBulk]⟩
  · injection h1 with h1
    clear h4
    have h5' : m = cap := by simpa using h5
    have each : ∀ i, i < len → ∃ p : Hr × Cf, (∀ j, j < 3 → W.cell? ((a.add (i * 3)).add j) = (hrv p.1)[j]?) ∧ RawR (Rows.uptoBulk (Df i)) W p.1 p.2 ∧ 1 ≤ Rows.uptoBulk (Df i) := by
      intro i hi
      obtain ⟨cs', g1, g2⟩ := h7 i (by omega)
      rw [hk0] at g1
      obtain ⟨_, hl, hat⟩ := World.cells?_some g1
      obtain ⟨hd, r, rfl, hr, hb⟩ := rat_of g2
      exact ⟨(hd, r), hat, hr, hb⟩
    obtain ⟨f, hf⟩ := choose_lt each
    have e : y.1 = .slice ((List.range len).map Df) ((List.range (m - len)).map fun j => Df (len + j)) := by rw [h6]
    have hb := bulk_each Df len (fun i hi => (hf i hi).2.2)
    have hB : Rows.uptoBulk y.1 = Rows.uptoBulkAll ((List.range len).map Df) + Rows.uptoBulkAll ((List.range (m - len)).map fun j => Df (len + j)) + 1 := by rw [e]; simp only [Rows.uptoBulk]
    refine ⟨some a, len, cap, (List.range len).map fun i => (f i).2, h1, ⟨some a, len, cap, (List.range len).map fun i => (f i).1, rfl, ⟨⟨by rw [flat3_len hrv hrv_len]; simp, h3⟩, fun hn => ?_⟩, by simp, by simp, fun i hd r e1 e2 => ?_⟩, by omega⟩
    · have hu0 := (hf 0 hn).1 0 (by omega)
      have hu0' : W.cell? (a.add 0) = some (.bool (f 0).1.1) := by
        have e0 : (a.add (0 * 3)).add 0 = a.add 0 := by simp [Addr.add]
        rw [← e0, hu0]; rfl
      have ha : a.spot = none := by
        cases hsp : a.spot with
        | none => rfl
        | some s =>
          exfalso
          have : (a.add 0) = a := by simp [Addr.add]
          rw [this] at hu0'
          simp only [World.cell?] at hu0'
          split at hu0'
          · simp [hsp] at hu0'
          · cases hu0'
      obtain ⟨b, off, sp⟩ := a
      simp only at ha
      subst ha
      refine ⟨b, off, rfl, World.block_lt_of_cell? W _ (by rw [addo] at hu0'; exact hu0'), fun i hi => ?_⟩
      have hi2 : i / 3 < len := by omega
      have h8 := (hf (i / 3) hi2).1 (i % 3) (by omega)
      rw [addo, addo] at h8
      rw [range_flat 3 hrv hrv_len (fun i => (f i).1) (by omega) hi, ← h8]
      rw [Nat.add_assoc, Nat.div_add_mod']
    · rw [List.getElem?_map] at e1 e2
      obtain ⟨i1, e3, e4⟩ := Option.map_eq_some_iff.1 e1
      obtain ⟨i2, e5, e6⟩ := Option.map_eq_some_iff.1 e2
      have e7 := e3.symm.trans e5
      injection e7 with e7
      subst e7
      subst e4 e6
      have hi : i < len := by have := (List.getElem?_eq_some_iff.1 e3).1; simpa using this
      have e8 : i1 = i := by rw [List.getElem?_range hi] at e3; injection e3 with e3; exact e3.symm
      subst e8
      exact (hf i1 hi).2.1.mono (Nat.le_trans (hb.2 i1 hi) (by rw [hB]; exact Nat.le_succ_of_le (Nat.le_add_right _ _)))
set_option maxRecDepth 100000 in
theorem open_poly {W : World} {v : Value} {d : DataW H} {ps : List MemPlace} {r : Reach} {b0 : Nat} (hok : Value.okWide Tryz.prog W r b0 46 v) (h : DataW.Trod enc Tryz.prog W 0 (fun _ => true) true 46 v d ps) :
    ∃ A n c rs, v = .slice A n c ∧ PolyI (Rows.uptoBulk d) W (.slice A n c) rs ∧ n + 1 ≤ Rows.uptoBulk d := by
  obtain ⟨a0, l0, c0, rfl⟩ := okWide_slice Tryz.underlying46 hok
  obtain ⟨fuel, h⟩ := h
  have hv : (Value.slice a0 l0 c0).cells.toList = [Value.slice a0 l0 c0] := rfl
  rw [hv] at h
  exact poly_of h
end
end Go.Proofs.YtamfhmmcnlollaaGreat
namespace Go.Proofs.YtamfhmmcnlollaaGreat
open Go.ChangeShapes Go.WideShapes Go.ChangeAt Go.RowKit Go.Deep
set_option linter.unusedVariables false

theorem ListI.nil26 {L : Nat} {w : World} : ListI L w (.slice none 0 0) [] := ⟨none, 0, 0, [], rfl, RdK.nil, rfl, All2.nil⟩
theorem stBind : ∃ fs, Tryz.prog.underlying 57 = some (.struct fs) ∧ Tryz.prog.cellsOf 57 = 2 ∧ (fs.toList.map fun f => (f.type, f.offset)) = [(9, 0), (46, 1)] := ⟨_, Tryz.underlying57, by kernel_rfl, by kernel_rfl⟩
theorem cells_polyQ : Tryz.prog.cellsOf 46 = 1 := by kernel_rfl
theorem cells_textQ : Tryz.prog.cellsOf 9 = 1 := by kernel_rfl
section
variable {H : Type} {enc : TypeId × Value → H}
theorem listQ2 {cs : List Value} (h : cs.length = 2) : ∃ a b, cs = [a, b] := by
  match cs, h with
  | [a, b], _ => exact ⟨a, b, rfl⟩
set_option maxRecDepth 100000 in
theorem bind_of {W : World} {fuel : Nat} {cs : List Value} {x : DataW H × List MemPlace} (h : DataW.trod enc Tryz.prog W 0 (fun _ => true) true fuel 57 cs = some x) (hx : Rows.uptoBulk x.1 ≤ 1048576) :
    ∃ (hd : Hb) (r : Bn), cs = hbv hd ∧ RawB 1048576 W hd r := by
  obtain ⟨fs, u0, k0, f0⟩ := stBind
  obtain ⟨y0, y1, n, hy, hl, h0, h1⟩ := struct2_of u0 f0 h
  obtain ⟨a, b, rfl⟩ := listQ2 (hl.trans k0)
  rw [cells_textQ] at h0
  rw [cells_polyQ] at h1
  simp only [List.drop_zero, List.take_succ_cons, List.take_zero, List.drop_succ_cons] at h0 h1
  obtain ⟨s, e, hz0, hs⟩ := DataW.trod_string Tryz.underlying9 h0
  injection e with e _
  subst e
  obtain ⟨A1, n1, c1, rs, rfl, P1, b1⟩ := poly_of h1
  have hb : Rows.uptoBulk x.1 = Rows.uptoBulk y0.1 + (Rows.uptoBulk y1.1 + 0) + 1 := by rw [hy]; simp [Rows.uptoBulk, Rows.uptoBulkAll]
  have h2 : Rows.uptoBulk y1.1 ≤ 1048576 := by rw [hb] at hx; exact Nat.le_trans (Nat.le_trans (Nat.le_add_left _ _) (Nat.le_succ _)) hx
  refine ⟨(s, (A1, n1, c1)), (s, rs), rfl, rfl, P1.mono h2, hs, ?_⟩
  have h3 := Nat.le_trans b1 h2
  show n1 ≤ _
  clear hb b1 hx h2
  omega
set_option maxRecDepth 100000 in
theorem bulk_le_one {D : Nat → DataW H} {len : Nat} {i : Nat} (hi : i < len) : ∀ {L : List (DataW H)}, L = (List.range len).map D → Rows.uptoBulk (D i) ≤ Rows.uptoBulkAll L := by
  intro L e
  subst e
  have : ∀ (l : List (DataW H)) (d : DataW H), d ∈ l → Rows.uptoBulk d ≤ Rows.uptoBulkAll l := by
    intro l d hd
    induction l with
    | nil => cases hd
    | cons y l ih =>
      simp only [Rows.uptoBulkAll]
      rcases List.mem_cons.1 hd with rfl | hd
      · exact Nat.le_add_right _ _
      · exact Nat.le_trans (ih hd) (Nat.le_add_left _ _)
  exact this _ _ (List.mem_map.2 ⟨i, List.mem_range.2 hi, rfl⟩)
theorem bulk_posQ (d : DataW H) : 1 ≤ Rows.uptoBulk d := by
  cases d with
  | lit l => cases l <;> simp [Rows.uptoBulk]
  | _ => simp [Rows.uptoBulk]
set_option maxRecDepth 100000 in
/-- a cell that reads as a list of bindings -/
theorem binds_of {W : World} {v : Value} {fuel : Nat} {y : DataW H × List MemPlace} (h : DataW.trod enc Tryz.prog W 0 (fun _ => true) true fuel 44 [v] = some y) (hy : Rows.uptoBulk y.1 ≤ 1048576) :
    ∃ A n c bs, v = .slice A n c ∧ ListI 1048576 W (.slice A n c) bs ∧ n ≤ 1048576 := by
  obtain ⟨fs, u0, hk0, f0⟩ := stBind
  rcases open_slice Tryz.underlying44 h with ⟨h1, h2⟩ | ⟨a, len, cap, m, k, Df, Pl, h1, _, h3, h4, h5, h6, h7⟩
  · injection h1 with h1
    exact ⟨none, 0, 0, [], h1, ListI.nil26, Nat.zero_le _⟩
  · injection h1 with h1
    clear h4
    have h5' : m = cap := by simpa using h5
    have e : y.1 = .slice ((List.range len).map Df) ((List.range (m - len)).map fun j => Df (len + j)) := by rw [h6]
    have hB : Rows.uptoBulk y.1 = Rows.uptoBulkAll ((List.range len).map Df) + Rows.uptoBulkAll ((List.range (m - len)).map fun j => Df (len + j)) + 1 := by rw [e]; simp only [Rows.uptoBulk]
    have hA : Rows.uptoBulkAll ((List.range len).map Df) ≤ 1048576 := Nat.le_trans (Nat.le_trans (Nat.le_add_right _ _) (Nat.le_succ _)) (hB ▸ hy)
    have hlen : len ≤ 1048576 := Nat.le_trans (bulk_each Df len (fun i _ => bulk_posQ _)).1 hA
    have each : ∀ i, i < len → ∃ p : Hb × Bn, (∀ j, j < 2 → W.cell? ((a.add (i * 2)).add j) = (hbv p.1)[j]?) ∧ RawB 1048576 W p.1 p.2 := by
      intro i hi
      obtain ⟨cs', g1, g2⟩ := h7 i (by clear hB hA hy; omega)
      rw [hk0] at g1
      obtain ⟨_, hl, hat⟩ := World.cells?_some g1
      obtain ⟨hd, r, rfl, hr⟩ := bind_of g2 (Nat.le_trans (bulk_le_one hi rfl) hA)
      exact ⟨(hd, r), hat, hr⟩
    obtain ⟨f, hf⟩ := choose_lt each
    clear hB hA hy
    refine ⟨some a, len, cap, (List.range len).map fun i => (f i).2, h1, ⟨some a, len, cap, (List.range len).map fun i => (f i).1, rfl, ⟨⟨by rw [flat2_len hbv hbv_len]; simp, h3⟩, fun hn => ?_⟩, by simp, by simp, fun i hd r e1 e2 => ?_⟩, hlen⟩
    · have hu0 := (hf 0 hn).1 0 (by omega)
      have hu0' : W.cell? (a.add 0) = some (.string (f 0).1.1) := by
        have e0 : (a.add (0 * 2)).add 0 = a.add 0 := by simp [Addr.add]
        rw [← e0, hu0]; rfl
      have ha : a.spot = none := by
        cases hsp : a.spot with
        | none => rfl
        | some s =>
          exfalso
          have : (a.add 0) = a := by simp [Addr.add]
          rw [this] at hu0'
          simp only [World.cell?] at hu0'
          split at hu0'
          · simp [hsp] at hu0'
          · cases hu0'
      obtain ⟨b, off, sp⟩ := a
      simp only at ha
      subst ha
      refine ⟨b, off, rfl, World.block_lt_of_cell? W _ (by rw [addo] at hu0'; exact hu0'), fun i hi => ?_⟩
      have hi2 : i / 2 < len := by omega
      have h8 := (hf (i / 2) hi2).1 (i % 2) (by omega)
      rw [addo, addo] at h8
      rw [range_flat 2 hbv hbv_len (fun i => (f i).1) (by omega) hi, ← h8]
      rw [Nat.add_assoc, Nat.div_add_mod']
    · rw [List.getElem?_map] at e1 e2
      obtain ⟨i1, e3, e4⟩ := Option.map_eq_some_iff.1 e1
      obtain ⟨i2, e5, e6⟩ := Option.map_eq_some_iff.1 e2
      have e7 := e3.symm.trans e5
      injection e7 with e7
      subst e7
      subst e4 e6
      have hi : i < len := by have := (List.getElem?_eq_some_iff.1 e3).1; simpa using this
      have e8 : i1 = i := by rw [List.getElem?_range hi] at e3; injection e3 with e3; exact e3.symm
      subst e8
      exact (hf i1 hi).2
set_option maxRecDepth 100000 in
theorem open_binds {W : World} {v : Value} {d : DataW H} {ps : List MemPlace} {r : Reach} {b0 : Nat} (hok : Value.okWide Tryz.prog W r b0 44 v) (h : DataW.Trod enc Tryz.prog W 0 (fun _ => true) true 44 v d ps) (hd : Rows.uptoBulk d ≤ 1048576) :
    ∃ A n c bs, v = .slice A n c ∧ ListI 1048576 W (.slice A n c) bs ∧ n ≤ 1048576 := by
  obtain ⟨a0, l0, c0, rfl⟩ := okWide_slice Tryz.underlying44 hok
  obtain ⟨fuel, h⟩ := h
  have hv : (Value.slice a0 l0 c0).cells.toList = [Value.slice a0 l0 c0] := rfl
  rw [hv] at h
  exact binds_of h hd
end
end Go.Proofs.YtamfhmmcnlollaaGreat
