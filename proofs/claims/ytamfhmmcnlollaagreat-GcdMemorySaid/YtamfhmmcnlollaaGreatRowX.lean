/-
  From a walk to the row: a law that answers true and leaves all memory that there was; what the bound gives. A parameter that is a list of numbers.
-/
import Derived.Test.YtamfhmmcnlollaaGreatNat
import Derived.ProofKit
import Derived.OpenShut
import Derived.JoinedCond
import Derived.ReadAgain
import Derived.ChangeSame
import Derived.ChangeSlices
import Derived.Deep.Fields
import Derived.Test.YtamfhmmcnlollaaGreatPowX
import Derived.Deep.Slices
namespace Go.Proofs.YtamfhmmcnlollaaGreat
open Go.ChangeShapes Go.WideShapes Go.ChangeAt Go.RowKit Go.Deep
set_option linter.unusedVariables false

theorem cells_u64 : Tryz.prog.cellsOf 41 = 1 := by kernel_rfl
theorem own : ownKnob Tryz.prog.godebug = none := by kernel_rfl
theorem kids : Kids Tryz.prog (· < Tryz.prog.types.size) := kids_rows (by kernel_rfl) (by kernel_rfl)
theorem slices_full : ∀ t e, t < Tryz.prog.types.size → Tryz.prog.underlying t = some (.slice e) → 0 < Tryz.prog.cellsOf e := slices_full_of _ (by kernel_rfl)

section
variable {H : Type} {enc : TypeId × Value → H} {P : Program}
theorem sameAt_below {w w' : World} (hb : Below w.heap.size w w') {p : MemPlace} (hp : p.block < w.heap.size) : w.sameAt w' p := by
  cases p with
  | cell b o => exact hb.cell (p := ⟨b, o, none⟩) hp
  | map b => exact hb.block b hp
theorem trodAll_carry {w w' : World} {spare : Nat → Bool} : ∀ {ts : List TypeId} {vs : List Value} {ds : List (DataW H)} {ps : List MemPlace}, DataW.TrodAll enc P w 0 spare true ts vs ds ps → (∀ p ∈ ps, w.sameAt w' p) → DataW.TrodAll enc P w' 0 spare true ts vs ds ps
  | [], [], [], _, h, _ => h
  | _ :: _, _ :: _, _ :: _, _, ⟨p, q, ⟨n, h1⟩, h2, e⟩, hs =>
    ⟨p, q, ⟨n, DataW.trod_carry n _ _ _ h1 (fun x hx => hs x (by rw [e]; exact List.mem_append_left _ hx))⟩, trodAll_carry h2 (fun x hx => hs x (by rw [e]; exact List.mem_append_right _ hx)), e⟩
  | [], [], _ :: _, _, h, _ => h.elim
  | [], _ :: _, _, _, h, _ => h.elim
  | _ :: _, [], _, _, h, _ => h.elim
  | _ :: _, _ :: _, [], _, h, _ => h.elim

theorem law_post {f : Func} {s : ChangeSpec} {W W' : World} {args : Array Value} {ds : List (DataW H)} {before : List MemPlace} {T : TypeId → Prop}
    (hv : s.vars = []) (hfn : s.fn H ds = { results := [.lit (.bool true)], args := ds }) (hr : f.resultTypes = #[4]) (hub : P.underlying 4 = some .bool)
    (K : Kids P T) (hz : ∀ t e, T t → P.underlying t = some (.slice e) → 0 < P.cellsOf e) (hT : ∀ t ∈ f.params.toList, T t)
    (hW : DataW.Whole enc P f.params.toList s.vars false W args.toList ds [] before) (hb : Below W.heap.size W W') :
    s.post enc P f false true false false W args (.bool true) W' := by
  obtain ⟨p, q, hA, hV, rfl, hfz, hnd⟩ := id hW
  have hlt : ∀ x ∈ p ++ q, x.block < W.heap.size := fun x hx => hW.lt x hx
  rw [hv] at hV
  have hq : q = [] := hV
  subst hq
  refine ⟨ds, [], p ++ [], [], p, [], hW, ?_, ?_, ?_, hb.frame _, fun h => by cases h⟩
  · rw [List.append_nil, hfn, hr]
    exact trodAll_cons_mk (shut_bool hub _) trodAll_mk0
  · rw [List.append_nil, hfn]
    have h1 := DataW.TrodAll.respare (spare' := fun b => decide (b < W.heap.size)) K hz hT hA (fun x hx => by simpa using hlt x (by simp [hx]))
    exact trodAll_carry h1 (fun x hx => sameAt_below hb (hlt x (by simp [hx])))
  · rw [List.append_nil, hfn, hv]
    rfl
end

section
variable {H : Type} {enc : TypeId × Value → H}
theorem bulk_lits (k : IntKind) (zs : List Int) : Rows.uptoBulkAll (H := H) (lits k zs) = zs.length := by
  induction zs with
  | nil => rfl
  | cons z zs ih =>
    show Rows.uptoBulkAll (DataW.lit (.int k z) :: lits k zs) = _
    simp only [Rows.uptoBulkAll, Rows.uptoBulk, ih, List.length_cons]
    omega
theorem nth_toNat (zs : List Int) (n i : Nat) (h : n ≤ zs.length) (hi : i < n) (h0 : ∀ z ∈ zs, 0 ≤ z) : ((nth ((zs.take n).map Int.toNat) i : Nat) : Int) = zs.getD i 0 := by
  have hi2 : i < zs.length := by omega
  rw [nth_lt (by simp; omega)]
  simp only [List.getElem_map, List.getElem_take]
  rw [List.getD_eq_getElem?_getD, List.getElem?_eq_getElem hi2]
  have := h0 zs[i] (List.getElem_mem hi2)
  simp
  omega
/-- a cell that reads as a slice of words -/
theorem words_of {P : Program} {t e : TypeId} {W : World} {v : Value} {fuel : Nat} {y : DataW H × List MemPlace} (ht : P.underlying t = some (.slice e)) (he : P.underlying e = some (.int .u64)) (hc : P.cellsOf e = 1)
    (h : DataW.trod enc P W 0 (fun _ => true) true fuel t [v] = some y) :
    ∃ A n c xs, v = .slice A n c ∧ Rd .u64 W A n c xs ∧ All YtamfhmmcnlollaaGreat.W xs ∧ n + 1 ≤ Rows.uptoBulk y.1 := by
  rcases open_ints ht he hc h with ⟨h1, h2⟩ | ⟨a, len, cap, zs, h1, _, h3, h4, h5, h6, h7, h8⟩
  · injection h1 with h1
    exact ⟨none, 0, 0, [], h1, Rd.nil, All.nil, by rw [h2]; simp [Rows.uptoBulk]⟩
  · injection h1 with h1
    have h6 : y.1 = .slice (lits .u64 (zs.take len)) (lits .u64 (zs.drop len)) := by rw [h6]
    have h5' : zs.length = cap := by simpa using h5
    have hw : ∀ z ∈ zs, 0 ≤ z ∧ z < 18446744073709551616 := by
      intro z hz
      have := h8 z hz
      have h2 : IntKind.u64.min ≤ z ∧ z ≤ IntKind.u64.max := by simpa [Lit.wf] using this
      have e1 : IntKind.u64.min = 0 := by decide
      have e2 : IntKind.u64.max = 18446744073709551615 := by decide
      omega
    refine ⟨some a, len, cap, (zs.take len).map Int.toNat, h1, ⟨⟨by simp; omega, h3⟩, fun hn => ?_⟩, ?_, ?_⟩
    · have hcell := h7 0 (by omega)
      have ha : a.spot = none := by
        cases hsp : a.spot with
        | none => rfl
        | some s =>
          exfalso
          have : (a.add 0) = a := by simp [Addr.add]
          rw [this] at hcell
          simp only [World.cell?] at hcell
          split at hcell
          · simp [hsp] at hcell
          · cases hcell
      obtain ⟨b, off, sp⟩ := a
      simp only at ha
      subst ha
      refine ⟨b, off, rfl, ?_, fun i hi => ?_⟩
      · exact World.block_lt_of_cell? W _ (by rw [addo] at hcell; exact hcell)
      · have := h7 i (by omega)
        rw [addo] at this
        rw [this, nth_toNat zs len i (by omega) hi (fun z hz => (hw z hz).1)]
    · intro x hx
      obtain ⟨z, hz, rfl⟩ := List.mem_map.1 hx
      have := hw z (List.mem_of_mem_take hz)
      rw [W_eq]; omega
    · rw [h6]
      simp only [Rows.uptoBulk, bulk_lits, List.length_take]
      omega
theorem int_of {P : Program} {t : TypeId} {W : World} {v : Value} {fuel : Nat} {y : DataW H × List MemPlace} (ht : P.underlying t = some (.int .i64)) (h : DataW.trod enc P W 0 (fun _ => true) true fuel t [v] = some y) :
    ∃ z : Int, v = .int .i64 z ∧ -9223372036854775808 ≤ z ∧ z ≤ 9223372036854775807 := by
  obtain ⟨n, h1, _, h3⟩ := DataW.trod_int ht h
  injection h1 with h1
  have h2 : IntKind.i64.min ≤ n ∧ n ≤ IntKind.i64.max := by simpa [Lit.wf] using h3
  have e1 : IntKind.i64.min = -9223372036854775808 := by decide
  have e2 : IntKind.i64.max = 9223372036854775807 := by decide
  exact ⟨n, h1, by omega, by omega⟩
/-- a struct of one-cell fields, by value -/
theorem open_aggs {P : Program} {t : TypeId} {fs : Array Field} {W : World} {v : Value} {d : DataW H} {ps : List MemPlace} (hs : P.underlying t = some (.struct fs)) (hone : oneCellFields P fs = true) (hC : P.cellsOf t = fs.size)
    {r : Reach} {b0 : Nat} (hok : Value.okWide P W r b0 t v) (h : DataW.Trod enc P W 0 (fun _ => true) true t v d ps) :
    ∃ (vs : List Value) (ys : List (DataW H × List MemPlace)) (n : Nat), v = .agg vs.toArray ∧ d = .agg (ys.map (·.1)) ∧ vs.length = fs.size ∧ ys.length = fs.size ∧
      ∀ (j : Nat) (f : Field), fs[j]? = some f → ∃ u y, vs[j]? = some u ∧ ys[j]? = some y ∧ DataW.trod enc P W 0 (fun _ => true) true n f.type [u] = some y := by
  obtain ⟨cs, rfl, hsz⟩ := okWide_struct hs hok
  obtain ⟨fuel, hf⟩ := h
  obtain ⟨xs, n, _, hx, hl, hxl, hfs⟩ := DataW.trod_struct hs hf
  refine ⟨cs.toList, xs, n, by simp, by simpa using congrArg Prod.fst hx, by simp [hsz, hC], hxl, fun j f hj => ?_⟩
  obtain ⟨ho, hk⟩ := hone_of hone j f hj
  have hjl : j < fs.size := (Array.getElem?_eq_some_iff.1 hj).1
  have hjc : j < cs.toList.length := by simp [hsz, hC]; exact hjl
  have h1 := hfs j f hj
  have e : (Value.agg cs).cells.toList = cs.toList := rfl
  rw [ho, hk, e, List.drop_eq_getElem_cons hjc] at h1
  have hxj : xs[j]? = some (xs[j]'(by omega)) := List.getElem?_eq_getElem (by omega)
  rw [hxj] at h1
  exact ⟨_, _, List.getElem?_eq_getElem hjc, hxj, by simpa using h1⟩
theorem list6 {α : Type} {l : List α} (h : l.length = 6) : ∃ a b c d e f, l = [a, b, c, d, e, f] := by
  match l, h with
  | [a, b, c, d, e, f], _ => exact ⟨a, b, c, d, e, f, rfl⟩
end
end Go.Proofs.YtamfhmmcnlollaaGreat
namespace Go.Proofs.YtamfhmmcnlollaaGreat
open Go.ChangeShapes Go.WideShapes Go.ChangeAt Go.RowKit Go.Deep
set_option linter.unusedVariables false
theorem cells_nat : Tryz.prog.cellsOf 23 = 1 := by kernel_rfl
section
variable {H : Type} {enc : TypeId × Value → H}
theorem bulk_range (D : Nat → DataW H) (l : Nat → Nat) : ∀ len, (∀ i, i < len → l i + 1 ≤ Rows.uptoBulk (D i)) → lsum ((List.range len).map l) + len ≤ Rows.uptoBulkAll ((List.range len).map D)
  | 0, _ => by simp [lsum, Rows.uptoBulkAll]
  | len + 1, h => by
    have ih := bulk_range D l len (fun i hi => h i (by omega))
    have h1 := h len (by omega)
    have app : ∀ (a b : List (DataW H)), Rows.uptoBulkAll (a ++ b) = Rows.uptoBulkAll a + Rows.uptoBulkAll b := by
      intro a b
      induction a with
      | nil => simp [Rows.uptoBulkAll]
      | cons x a ih => simp only [List.cons_append, Rows.uptoBulkAll, ih]; omega
    rw [List.range_succ, List.map_append, List.map_append, lsum_append, app]
    simp only [List.map_cons, List.map_nil, lsum, Rows.uptoBulkAll]
    omega
theorem nth_range (l : Nat → Nat) {len i : Nat} (h : i < len) : nth ((List.range len).map l) i = l i := by
  rw [nth_lt (by simpa using h)]; simp
/-- a cell that reads as a list of numbers -/
theorem nums_of {P : Program} {t e e2 : TypeId} {W : World} {v : Value} {fuel : Nat} {y : DataW H × List MemPlace} (ht : P.underlying t = some (.slice e)) (he : P.underlying e = some (.slice e2)) (he2 : P.underlying e2 = some (.int .u64)) (hc : P.cellsOf e = 1) (hc2 : P.cellsOf e2 = 1)
    (h : DataW.trod enc P W 0 (fun _ => true) true fuel t [v] = some y) :
    ∃ A n c xs ls, v = .slice A n c ∧ Nums W A n c xs ls ∧ n + lsum ls ≤ Rows.uptoBulk y.1 := by
  rcases open_slice ht h with ⟨h1, h2⟩ | ⟨a, len, cap, m, k, Df, Pl, h1, _, h3, h4, h5, h6, h7⟩
  · injection h1 with h1
    exact ⟨none, 0, 0, [], [], h1, ⟨⟨rfl, rfl, Nat.le_refl _⟩, fun h => absurd h (by omega)⟩, by simp [lsum]⟩
  · injection h1 with h1
    have h5' : m = cap := by simpa using h5
    have each : ∀ i, i < len → ∃ p : Nat × Nat, ∃ u, W.cell? (a.add i) = some u ∧ Num W u p.1 p.2 ∧ p.2 + 1 ≤ Rows.uptoBulk (Df i) := by
      intro i hi
      obtain ⟨cs', g1, g2⟩ := h7 i (by omega)
      rw [hc, Nat.mul_one] at g1
      obtain ⟨_, hl, hat⟩ := World.cells?_some g1
      have hcs : ∃ u, cs' = [u] := by
        match cs', hl with
        | [u], _ => exact ⟨u, rfl⟩
      obtain ⟨u, rfl⟩ := hcs
      have hu := cell_of_cells?_one g1
      obtain ⟨A, n, c, xs, rfl, R, Wx, b⟩ := words_of he he2 hc2 g2
      exact ⟨(val YtamfhmmcnlollaaGreat.W xs, n), _, hu, R.num Wx (Nat.le_refl _), b⟩
    obtain ⟨f, hf⟩ := choose_lt each
    refine ⟨some a, len, cap, (List.range len).map fun i => (f i).1, (List.range len).map fun i => (f i).2, h1, ⟨⟨by simp, by simp, h3⟩, fun hn => ?_⟩, ?_⟩
    · obtain ⟨u0, hu0, _⟩ := hf 0 hn
      have ha : a.spot = none := by
        cases hsp : a.spot with
        | none => rfl
        | some s =>
          exfalso
          have : (a.add 0) = a := by simp [Addr.add]
          rw [this] at hu0
          simp only [World.cell?] at hu0
          split at hu0
          · simp [hsp] at hu0
          · cases hu0
      obtain ⟨b, off, sp⟩ := a
      simp only at ha
      subst ha
      refine ⟨b, off, rfl, ?_, fun i hi => ?_⟩
      · exact World.block_lt_of_cell? W _ (by rw [addo] at hu0; exact hu0)
      · obtain ⟨u, g1, g2, _⟩ := hf i hi
        rw [addo] at g1
        refine ⟨u, g1, ?_⟩
        rw [nth_range _ hi, nth_range _ hi]
        exact g2
    · have hb := bulk_range Df (fun i => (f i).2) len (fun i hi => by obtain ⟨u, _, _, g⟩ := hf i hi; exact g)
      have e : y.1 = .slice ((List.range len).map Df) ((List.range (m - len)).map fun j => Df (len + j)) := by rw [h6]
      rw [e]
      simp only [Rows.uptoBulk]
      omega
end
end Go.Proofs.YtamfhmmcnlollaaGreat
