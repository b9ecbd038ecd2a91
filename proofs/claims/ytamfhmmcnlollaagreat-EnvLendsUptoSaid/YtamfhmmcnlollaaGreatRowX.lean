/-
  From a walk to the row: a law that answers true and leaves all memory that there was; what the bound gives. A parameter that is a list of numbers.
-/
import Derived.Test.YtamfhmmcnlollaaGreatNat
import Derived.ProofKit
import Derived.OpenShut
import Derived.JoinedCond
import Derived.ReadAgain
import Derived.ChangeSame
import Derived.ChangeSlices
import Derived.Deep.Fields
import Derived.Test.YtamfhmmcnlollaaGreatPowX
import Derived.Deep.Slices
namespace Go.Proofs.YtamfhmmcnlollaaGreat
open Go.ChangeShapes Go.WideShapes Go.ChangeAt Go.RowKit Go.Deep
set_option linter.unusedVariables false

theorem cells_u64 : Tryz.prog.cellsOf 41 = 1 := by kernel_rfl
theorem own : ownKnob Tryz.prog.godebug = none := by kernel_rfl
theorem kids : Kids Tryz.prog (· < Tryz.prog.types.size) := kids_rows (by kernel_rfl) (by kernel_rfl)
theorem slices_full : ∀ t e, t < Tryz.prog.types.size → Tryz.prog.underlying t = some (.slice e) → 0 < Tryz.prog.cellsOf e := slices_full_of _ (by kernel_rfl)

section
variable {H : Type} {enc : TypeId × Value → H} {P : Program}
theorem sameAt_below {w w' : World} (hb : Below w.heap.size w w') {p : MemPlace} (hp : p.block < w.heap.size) : w.sameAt w' p := by
  cases p with
  | cell b o => exact hb.cell (p := ⟨b, o, none⟩) hp
  | map b => exact hb.block b hp
theorem trodAll_carry {w w' : World} {spare : Nat → Bool} : ∀ {ts : List TypeId} {vs : List Value} {ds : List (DataW H)} {ps : List MemPlace}, DataW.TrodAll enc P w 0 spare true ts vs ds ps → (∀ p ∈ ps, w.sameAt w' p) → DataW.TrodAll enc P w' 0 spare true ts vs ds ps
  | [], [], [], _, h, _ => h
  | _ :: _, _ :: _, _ :: _, _, ⟨p, q, ⟨n, h1⟩, h2, e⟩, hs =>
    ⟨p, q, ⟨n, DataW.trod_carry n _ _ _ h1 (fun x hx => hs x (by rw [e]; exact List.mem_append_left _ hx))⟩, trodAll_carry h2 (fun x hx => hs x (by rw [e]; exact List.mem_append_right _ hx)), e⟩
  | [], [], _ :: _, _, h, _ => h.elim
  | [], _ :: _, _, _, h, _ => h.elim
  | _ :: _, [], _, _, h, _ => h.elim
  | _ :: _, _ :: _, [], _, h, _ => h.elim

theorem law_post {f : Func} {s : ChangeSpec} {W W' : World} {args : Array Value} {ds : List (DataW H)} {before : List MemPlace} {T : TypeId → Prop}
    (hv : s.vars = []) (hfn : s.fn H ds = { results := [.lit (.bool true)], args := ds }) (hr : f.resultTypes = #[4]) (hub : P.underlying 4 = some .bool)
    (K : Kids P T) (hz : ∀ t e, T t → P.underlying t = some (.slice e) → 0 < P.cellsOf e) (hT : ∀ t ∈ f.params.toList, T t)
    (hW : DataW.Whole enc P f.params.toList s.vars false W args.toList ds [] before) (hb : Below W.heap.size W W') :
    s.post enc P f false true false false W args (.bool true) W' := by
  obtain ⟨p, q, hA, hV, rfl, hfz, hnd⟩ := id hW
  have hlt : ∀ x ∈ p ++ q, x.block < W.heap.size := fun x hx => hW.lt x hx
  rw [hv] at hV
  have hq : q = [] := hV
  subst hq
  refine ⟨ds, [], p ++ [], [], p, [], hW, ?_, ?_, ?_, hb.frame _, fun h => by cases h⟩
  · rw [List.append_nil, hfn, hr]
    exact trodAll_cons_mk (shut_bool hub _) trodAll_mk0
  · rw [List.append_nil, hfn]
    have h1 := DataW.TrodAll.respare (spare' := fun b => decide (b < W.heap.size)) K hz hT hA (fun x hx => by simpa using hlt x (by simp [hx]))
    exact trodAll_carry h1 (fun x hx => sameAt_below hb (hlt x (by simp [hx])))
  · rw [List.append_nil, hfn, hv]
    rfl
end

section
variable {H : Type} {enc : TypeId × Value → H}
theorem bulk_lits (k : IntKind) (zs : List Int) : Rows.uptoBulkAll (H := H) (lits k zs) = zs.length := by
  induction zs with
  | nil => rfl
  | cons z zs ih =>
    show Rows.uptoBulkAll (DataW.lit (.int k z) :: lits k zs) = _
    simp only [Rows.uptoBulkAll, Rows.uptoBulk, ih, List.length_cons]
    omega
theorem nth_toNat (zs : List Int) (n i : Nat) (h : n ≤ zs.length) (hi : i < n) (h0 : ∀ z ∈ zs, 0 ≤ z) : ((nth ((zs.take n).map Int.toNat) i : Nat) : Int) = zs.getD i 0 := by
  have hi2 : i < zs.length := by omega
  rw [nth_lt (by simp; omega)]
  simp only [List.getElem_map, List.getElem_take]
  rw [List.getD_eq_getElem?_getD, List.getElem?_eq_getElem hi2]
  have := h0 zs[i] (List.getElem_mem hi2)
  simp
  omega
/-- a cell that reads as a slice of words -/
theorem words_of {P : Program} {t e : TypeId} {W : World} {v : Value} {fuel : Nat} {y : DataW H × List MemPlace} (ht : P.underlying t = some (.slice e)) (he : P.underlying e = some (.int .u64)) (hc : P.cellsOf e = 1)
    (h : DataW.trod enc P W 0 (fun _ => true) true fuel t [v] = some y) :
    ∃ A n c xs, v = .slice A n c ∧ Rd .u64 W A n c xs ∧ All YtamfhmmcnlollaaGreat.W xs ∧ n + 1 ≤ Rows.uptoBulk y.1 := by
  rcases open_ints ht he hc h with ⟨h1, h2⟩ | ⟨a, len, cap, zs, h1, _, h3, h4, h5, h6, h7, h8⟩
  · injection h1 with h1
    exact ⟨none, 0, 0, [], h1, Rd.nil, All.nil, by rw [h2]; simp [Rows.uptoBulk]⟩
  · injection h1 with h1
    have h6 : y.1 = .slice (lits .u64 (zs.take len)) (lits .u64 (zs.drop len)) := by rw [h6]
    have h5' : zs.length = cap := by simpa using h5
    have hw : ∀ z ∈ zs, 0 ≤ z ∧ z < 18446744073709551616 := by
      intro z hz
      have := h8 z hz
      have h2 : IntKind.u64.min ≤ z ∧ z ≤ IntKind.u64.max := by simpa [Lit.wf] using this
      have e1 : IntKind.u64.min = 0 := by decide
      have e2 : IntKind.u64.max = 18446744073709551615 := by decide
      omega
    refine ⟨some a, len, cap, (zs.take len).map Int.toNat, h1, ⟨⟨by simp; omega, h3⟩, fun hn => ?_⟩, ?_, ?_⟩
    · have hcell := h7 0 (by omega)
      have ha : a.spot = none := by
        cases hsp : a.spot with
        | none => rfl
        | some s =>
          exfalso
          have : (a.add 0) = a := by simp [Addr.add]
          rw [this] at hcell
          simp only [World.cell?] at hcell
          split at hcell
          · simp [hsp] at hcell
          · cases hcell
      obtain ⟨b, off, sp⟩ := a
      simp only at ha
      subst ha
      refine ⟨b, off, rfl, ?_, fun i hi => ?_⟩
      · exact World.block_lt_of_cell? W _ (by rw [addo] at hcell; exact hcell)
      · have := h7 i (by omega)
        rw [addo] at this
        rw [this, nth_toNat zs len i (by omega) hi (fun z hz => (hw z hz).1)]
    · intro x hx
      obtain ⟨z, hz, rfl⟩ := List.mem_map.1 hx
      have := hw z (List.mem_of_mem_take hz)
      rw [W_eq]; omega
    · rw [h6]
      simp only [Rows.uptoBulk, bulk_lits, List.length_take]
      omega
end
end Go.Proofs.YtamfhmmcnlollaaGreat
namespace Go.Proofs.YtamfhmmcnlollaaGreat
open Go.ChangeShapes Go.WideShapes Go.ChangeAt Go.RowKit Go.Deep
set_option linter.unusedVariables false
section
variable {H : Type} {enc : TypeId × Value → H}
end
end Go.Proofs.YtamfhmmcnlollaaGreat
