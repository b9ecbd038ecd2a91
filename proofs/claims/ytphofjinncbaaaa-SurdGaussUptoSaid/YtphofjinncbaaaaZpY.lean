/-
  A drawn region with floats, within a round of a range over a function; one with a fork (two operations that may come in either order) and stores at its end. slices.Backward over integers: its iterator's contract. moves.Compose, line, Shift. moves.line, moves.Shift. surdtop: copyInt, copyZ, sameInt, sameZ, whole, poly. surdtop: sameZ, whole, poly. Polynomials in plain Lean: the values of what is added, multiplied, scaled, turned, composed; equal values make equal coefficients. How great polynomials grow: the sum of the sizes. The walks' contracts with their bounds paid. The contracts of Compose, Shift, AtInt, Homog, Scale, Flip with their bounds paid.
-/
import Derived.Test.YtphofjinncbaaaaFlt
import Derived.Test.YtphofjinncbaaaaIntG
import Derived.RangeFuncCalls
import Derived.OrdersIn
import Derived.Test.YtphofjinncbaaaaZpX
import Derived.Test.YtphofjinncbaaaaUndig
namespace Go.Proofs.Ytphofjinncbaaaa
open Go.RowKit
set_option linter.unusedVariables false

section
variable {P : Program} {ops : Array Oper} {Q : Exit → Act → World → Prop} {lp n : Nat}
theorem operIn_of {o : Oper} {a : Act} {w : World} {K : Act → World → Prop} (hd : ∀ c, o.op ≠ .defer c) (h : o.wp P a w K (onlyN Q)) : o.wpIn (Fence.wide.inRound lp) n P a w K Q := by
  refine ⟨fun _ _ => trivial, ?_⟩
  rw [Fence.inRound_round, Oper.semAt_eq _ _ _ hd]
  unfold Oper.wp at h
  generalize (execOp a.eval o).run P w = r at *
  cases r with
  | ok x w' =>
    cases x <;> simp only [Oper.upon, Oper.uponIn] at h ⊢
    case enter f args =>
      refine ⟨(fun hh => by cases hh), CallsIn.inRound lp (callsIn_wide.2 (Calls.mono h fun e w'' he => ?_))⟩
      cases e with
      | returned u => exact he
      | panicked c => exact absurd he.1 (by simp)
      | outgrown => obtain ⟨_, _, hh, _⟩ := he; cases hh
    case row row args =>
      refine ⟨(fun hh => by cases hh), fun c cs _ => ?_⟩
      obtain ⟨v, w', r, s⟩ := h c cs
      exact ⟨v, w', r, stepsIn_wide.2 s⟩
    all_goals exact h
  | halt x w' =>
    cases x <;> simp only [Oper.upon, Oper.uponIn] at h ⊢
    case panic u => exact absurd h.1 (by simp)
def noDefer (o : Oper) : Bool := match o.op with
  | .defer _ => false
  | _ => true
theorem noDefer_ne {o : Oper} (h : noDefer o = true) : ∀ c, o.op ≠ .defer c := fun c e => by unfold noDefer at h; rw [e] at h; cases h
theorem wpOpIn_of {i : Nat} {a : Act} {w : World} {K : Act → World → Prop} (hd : ops.all noDefer = true) (h : wpOp P ops (onlyN Q) i K a w) : wpOpIn (Fence.wide.inRound lp) n P ops Q i K a w := by
  unfold wpOp at h
  unfold wpOpIn
  split
  · rename_i e; simpa [e] using h
  · rename_i o ho
    simp only [ho] at h
    have hdo : noDefer o = true := by
      rw [Array.all_eq_true] at hd
      obtain ⟨hi, e⟩ := Array.getElem?_eq_some_iff.1 ho
      have := hd i hi
      rwa [e] at this
    split
    · rename_i hw
      simp only [hw, if_true] at h
      rcases h with h | ⟨_, _, _, hh, _⟩
      · exact operIn_of (noDefer_ne hdo) h
      · cases hh
    · rename_i hw
      simp only [hw] at h
      exact ⟨fun _ _ => trivial, h⟩
theorem wpAnyIn_of {md : Region.Mode} (hd : ops.all noDefer = true) : ∀ (fuel : Nat) (listed : Array Bool) (a : Act) (w : World), wpAny P md ops (onlyN Q) fuel listed a w → wpAnyIn (Fence.wide.inRound lp) n P md ops Q fuel listed a w
  | 0, _, _, _, h => ⟨h.1, h.2.2⟩
  | fuel + 1, _, _, _, h => ⟨fun h0 => (h.1 h0).2, fun i hi => wpOpIn_of hd (wpOp_mono (fun a' w' h' => wpAnyIn_of hd fuel _ a' w' h') (h.2 i hi))⟩
theorem wpIn_region_fltR {id : Nat} {a : Act} {w : World} (R : World → World → Prop) (hreflR : ∀ w, R w w) (htrR : ∀ a b c, R a b → R b c → R a c) (h1R : ∀ a b, Grow none a b → R a b) (l : List (Nat × Nat)) (hm : P.follows .mixedOrders = true) (hd : ops.all noDefer = true) (hB : (Region.noSelect ops && decide (reals l = ops.size) && okF .any ops l [] (Array.replicate ops.size false)) = true)
    (h : wpF P ops Q R (Grow none) l (fun _ _ _ => False) a w.drew) : (Code.region id ops true).wpIn (Fence.wide.inRound lp) n P Q a w := by
  simp only [Bool.and_eq_true, decide_eq_true_eq] at hB
  obtain ⟨⟨hs, hl⟩, hok⟩ := hB
  refine wpIn_region_any hm (wpAnyIn_of hd _ _ _ _ (wpAny_of_R (R := R) _ _ _ _ ?_))
  rw [← hl]
  have := okF_sound (P := P) (md := .any) (ops := ops) (Q := Q) (R := R) (R1 := Grow none) (fun _ _ h => (by obtain ⟨_, _, _, h4, _⟩ := h; exact h4)) hreflR htrR (Grow.refl none) (Grow.trans none) h1R hs (reals l + l.length) l (reals l) (Array.replicate ops.size false) [] (fun _ _ _ => False) a w.drew w.drew (Nat.le_refl _)
    ⟨by simp [somes], hok, Grow.refl _ _, h, fun _ => rfl, by simp, by simp, by simp [keys], by simp [keys], by simp [keys], by simp, by simp⟩
  rw [hl] at this ⊢
  exact this
/-- an order with one fork: first what is pure, then number i or number j -/
def forkB (md : Region.Mode) (ops : Array Oper) (st : List Nat) (i j : Nat) (r1 r2 : List (Nat × Nat)) : List Nat → Array Bool → Bool
  | [], listed => decide (Region.ready md ops listed = [i, j]) && decide (r1.length = r2.length) && sordB md ops st r1 (listed.setIfInBounds i true) && sordB md ops st r2 (listed.setIfInBounds j true)
  | k :: pre, listed => (Region.ready md ops listed).contains k && Region.free md ops listed k && st.all (fun j => listed.getD j true || waits md ops j k) && forkB md ops st i j r1 r2 pre (listed.setIfInBounds k true)
theorem yieldsIf_uniq {S : World → Prop} {o : Oper} {u v : Value} {a : Act} {w : World} (hS : S w) (h : YieldsIf P ops S o u a) (h' : YieldsIf P ops S o v a) : u = v := by
  rcases h with ⟨h1, h2⟩ | ⟨h1, h2⟩
  · rcases h' with ⟨_, h4⟩ | ⟨h3, _⟩
    · have e1 := h2 w hS
      have e2 := h4 w hS
      rw [e1] at e2
      injection e2 with e2 _
      injection e2
    · rw [h1] at h3; cases h3
  · rcases h' with ⟨h3, _⟩ | ⟨_, h4⟩
    · rw [h1] at h3; cases h3
    · rw [h2, h4]
theorem wpAnyS_fork {md : Region.Mode} {st : List Nat} {i j : Nat} {r1 r2 : List (Nat × Nat)} (hs : Region.noSelect ops = true) :
    ∀ (pre : List Nat) (listed : Array Bool) (a : Act) (w : World), forkB md ops st i j r1 r2 pre listed = true → wpS P ops Q (pre.map (fun k => (0, k)) ++ (1, i) :: r1) a w → wpS P ops Q (pre.map (fun k => (0, k)) ++ (1, j) :: r2) a w → wpAnyS P md ops (onlyN Q) st (pre.length + (r1.length + 1)) listed a w
  | [], listed, a, w, hB, h1, h2 => by
    simp only [forkB, Bool.and_eq_true, decide_eq_true_eq] at hB
    obtain ⟨⟨⟨hr, hl⟩, hb1⟩, hb2⟩ := hB
    rw [List.length_nil, Nat.zero_add]
    refine ⟨fun h0 => (by rw [hr] at h0; cases h0), fun k hk => ?_⟩
    rw [hr] at hk
    simp only [List.mem_cons, List.not_mem_nil, or_false] at hk
    rcases hk with rfl | rfl
    · exact wpOp_mono (fun a' w' h' => ⟨.inr h'.1, wpAnyS_of_ord hs r1 _ _ _ hb1 h'.2⟩) h1
    · exact wpOp_mono (fun a' w' h' => ⟨.inr h'.1, by rw [hl]; exact wpAnyS_of_ord hs r2 _ _ _ hb2 h'.2⟩) h2
  | k :: pre, listed, a, w, hB, h1, h2 => by
    simp only [forkB, Bool.and_eq_true, List.all_eq_true, Bool.or_eq_true] at hB
    obtain ⟨⟨⟨hr, hf⟩, hst⟩, hB'⟩ := hB
    obtain ⟨o, ho, v, hy, h1'⟩ := h1
    obtain ⟨o', ho', v', hy', h2'⟩ := h2
    have e := ho.symm.trans ho'
    injection e with e
    subst e
    have e := yieldsIf_uniq (Grow.refl none w) hy hy'
    subst e
    have hlen : (k :: pre).length + (r1.length + 1) = (pre.length + (r1.length + 1)) + 1 := by simp; omega
    rw [hlen]
    exact wpAnyS_first ho (Region.noSelect_spec hs) (fun c a w hh => absurd hh.1 (by simp)) _ listed a w (Region.free_spec ho hf) hst (by simpa using hr) hy
      (wpAnyS_fork hs pre _ _ _ hB' h1' h2')
theorem wpIn_region_fork {id : Nat} {a : Act} {w : World} (pre : List Nat) (i j : Nat) (r1 r2 : List (Nat × Nat)) (hm : P.follows .mixedOrders = true) (hd : ops.all noDefer = true)
    (hB : (Region.noSelect ops && decide (pre.length + (r1.length + 1) = ops.size) && forkB .any ops (storesOf r1) i j r1 r2 pre (Array.replicate ops.size false)) = true)
    (h1 : wpS P ops Q (pre.map (fun k => (0, k)) ++ (1, i) :: r1) a w.drew) (h2 : wpS P ops Q (pre.map (fun k => (0, k)) ++ (1, j) :: r2) a w.drew) : (Code.region id ops true).wpIn (Fence.wide.inRound lp) n P Q a w := by
  simp only [Bool.and_eq_true, decide_eq_true_eq] at hB
  obtain ⟨⟨hs, hl⟩, hB'⟩ := hB
  refine wpIn_region_any hm (wpAnyIn_of hd _ _ _ _ (wpAny_of_S (st := storesOf r1) _ _ _ _ ?_))
  have := wpAnyS_fork hs pre _ a w.drew hB' h1 h2
  rw [hl] at this
  exact this
end
end Go.Proofs.Ytphofjinncbaaaa
namespace Go.Proofs.Ytphofjinncbaaaa
open Go.RowKit Go.Shelf
set_option linter.unusedVariables false
set_option linter.unusedSimpArgs false
attribute [local go_sem] Oper.semAt_some

/-- header i of a list -/
def hnz (hs : List Hz) (i : Nat) : Hz := (hs[i]?).getD (false, (none, 0, 0))
def encZ (hs : List Hz) (x : Nat) : Array Value := #[.int .i64 (x : Int), .agg #[.bool (hnz hs x).1, shv (hnz hs x).2]]
/-- the last k places, backwards -/
def backz (n k : Nat) : List Nat := (List.range k).map fun j => n - 1 - j
theorem backz_succ (n k : Nat) : backz n (k + 1) = backz n k ++ [n - 1 - k] := by simp [backz, List.range_succ]
theorem backz_length (n k : Nat) : (backz n k).length = k := by simp [backz]
set_option maxRecDepth 100000 in
set_option maxHeartbeats 2000000 in
theorem backz1_in (F : Fence) (n : Nat) (h7 : F.fn 91) (hro : F.round = none) (hn : 1 ≤ n) (l Bs n₀ b off len cap : Nat) (hs : List Hz) (hl : hs.length = len) (hreach : len ≤ 1099511627776) (hb : b < n₀) (J Jx : List Nat → World → Prop)
    (hY : ∀ pre x W, J pre W → pre.length < len → YieldAt F (n - 1) Try.prog l (encZ hs x) W fun e W' =>
      (e = .returned (.bool true) ∧ J (pre ++ [x]) W' ∧ KpB n₀ Bs W W') ∨ (e = .returned (.bool false) ∧ Jx (pre ++ [x]) W'))
    (W : World) (hBs : W.cell? ⟨Bs, 0, none⟩ = some (.slice (some ⟨b, off, none⟩) len cap)) (hc : ∀ j, j < len → W.cell? ⟨b, off + j * 2, none⟩ = some (.bool (hnz hs j).1) ∧ W.cell? ⟨b, off + j * 2 + 1, none⟩ = some (shv (hnz hs j).2)) (h0 : J [] W) :
    CallsIn F n Try.prog 91 #[.func (.yield l) #[] #[], .pointer (some ⟨Bs, 0, none⟩)] W fun e W' => (∃ v, e = .returned v) ∧
      ((∃ ys, ys = backz len len ∧ J ys W') ∨ (∃ pre, (∃ k, k ≤ len ∧ pre = backz len k) ∧ Jx pre W')) := by
  refine callsIn_of_wp Try.func91 rfl h7 ?_ hro
  simp only [Try.ntmps91, List.size_toArray, List.length_cons, List.length_nil, Nat.reduceAdd, Nat.reduceSub, Array.replicate_succ, Array.replicate_zero, List.push_toArray, List.append_toArray, List.nil_append, List.cons_append]
  gi_wp2
  gi_loopw [3] (fun i wr => ∃ k : Nat, k ≤ len ∧ i = .int .i64 ((len : Int) - 1 - k) ∧ J (backz len k) wr ∧ KpB n₀ Bs W wr)
    (fun i _ => (intOf i + 1).toNat)
  case atStart => exact ⟨0, Nat.zero_le _, by simp, h0, Below.refl _ _, fun _ h => h⟩
  case round =>
    obtain ⟨k, hk, rfl, hJs, hnx⟩ := hrel
    have hBs' : wr.cell? ⟨Bs, 0, none⟩ = some (.slice (some ⟨b, off, none⟩) len cap) := hnx.2 _ hBs
    by_cases hlt : k < len
    · obtain ⟨m, hm⟩ : ∃ m, m = len - 1 - k := ⟨_, rfl⟩
      have em : (len : Int) - 1 - (k : Int) = (m : Int) := by omega
      rw [em]
      have hm1 : m < len := by omega
      have hcx : wr.cell? ⟨b, off + m * 2, none⟩ = some (.bool (hnz hs m).1) := (hnx.1.cell (p := ⟨b, off + m * 2, none⟩) hb).trans (hc m hm1).1
      have hcy : wr.cell? ⟨b, off + m * 2 + 1, none⟩ = some (shv (hnz hs m).2) := (hnx.1.cell (p := ⟨b, off + m * 2 + 1, none⟩) hb).trans (hc m hm1).2
      obtain ⟨fn, tmps, assign, body, hy, hR⟩ := hY _ m wr hJs (by rw [backz_length]; exact hlt)
      simp only [encZ] at hy
      generalize hnz hs m = hd at hcx hcy hy
      obtain ⟨s, A1, n1, c1⟩ := hd
      simp only [shv] at hcx hcy hy
      have HM := Lib.hid hm
      clear hm em
      have i1 : (0 : Int) ≤ (m : Int) := by omega
      have i2 : (m : Int) < (len : Int) := by omega
      gi_wp2
      refine hR.mono ?_
      rintro e W3 (⟨rfl, hJ3, hk3⟩ | ⟨rfl, hJx3⟩)
      · gi_wp2
        go_roundw
        case rel => exact ⟨k + 1, by omega, by have := HM.out; go_num, by rw [backz_succ, ← HM.out]; exact hJ3, hnx.1.trans hk3.1, fun v h => hk3.2 v (hnx.2 v h)⟩
        case measure => simp [intOf]
      · gi_wp2
        refine bodyPost_ret (results_none rfl _ _ _) rfl ?_
        exact ⟨⟨_, rfl⟩, .inr ⟨_, ⟨k + 1, by omega, by rw [backz_succ, ← HM.out]⟩, hJx3⟩⟩
    · obtain rfl : k = len := by omega
      have em : (k : Int) - 1 - (k : Int) = -1 := by omega
      rw [em]
      gi_wp2
      go_end0
      exact ⟨⟨_, rfl⟩, .inl ⟨_, rfl, hJs⟩⟩
set_option maxRecDepth 100000 in
set_option maxHeartbeats 1000000 in
theorem backz1_nil (F : Fence) (n : Nat) (h7 : F.fn 91) (hro : F.round = none) (l Bs cap : Nat) (A : Option Addr) (J : List Nat → World → Prop) (W : World) (hBs : W.cell? ⟨Bs, 0, none⟩ = some (.slice A 0 cap)) (h0 : J [] W) :
    CallsIn F n Try.prog 91 #[.func (.yield l) #[] #[], .pointer (some ⟨Bs, 0, none⟩)] W fun e W' => (∃ v, e = .returned v) ∧ J [] W' := by
  refine callsIn_of_wp Try.func91 rfl h7 ?_ hro
  simp only [Try.ntmps91, List.size_toArray, List.length_cons, List.length_nil, Nat.reduceAdd, Nat.reduceSub, Array.replicate_succ, Array.replicate_zero, List.push_toArray, List.append_toArray, List.nil_append, List.cons_append]
  gi_wp2
  gi_loopw [3] (fun i wr => i = .int .i64 (-1) ∧ J [] wr) (fun _ _ => 0)
  case atStart => exact ⟨rfl, h0⟩
  case round =>
    obtain ⟨rfl, hJs⟩ := hrel
    gi_wp2
    go_end0
    exact ⟨⟨_, rfl⟩, hJs⟩
set_option maxHeartbeats 1000000 in
theorem backwardz_in (F : Fence) (n : Nat) (h5 : F.fn 61) (hro : F.round = none) (a : Option Addr) (len cap : Nat) (w : World) :
    CallsIn F n Try.prog 61 #[.slice a len cap] w fun e w' => e = .returned (.func (.func 91) #[] #[.pointer (some ⟨w.heap.size, 0, none⟩)]) ∧ w' = w.alloc (.cells #[.slice a len cap] 43) := by
  refine callsIn_of_wp Try.func61 rfl h5 ?_ hro
  simp only [Try.ntmps61, List.size_toArray, List.length_cons, List.length_nil, Nat.reduceAdd, Nat.reduceSub, Array.replicate_succ, Array.replicate_zero, List.push_toArray, List.append_toArray, List.nil_append, List.cons_append]
  gi_wp2
  go_ret
  exact ⟨rfl, rfl⟩
theorem backwardz_stops (F : Fence) (n : Nat) (h7 : F.fn 91) (hro : F.round = none) (hn : 1 ≤ n) (Bs n₀ : Nat) (A : Option Addr) (m c : Nat) (hs : List Hz) (w : World) (hm : m ≤ 1099511627776) (hBs : Bs < w.heap.size) (hn₀ : n₀ ≤ w.heap.size)
    (hc : w.cell? ⟨Bs, 0, none⟩ = some (.slice A m c)) (hR : RdK 2 w A m c (hs.flatMap zhv)) (hA : ∀ a, A = some a → m ≠ 0 → a.block < n₀) :
    SeqStopsK F n Try.prog 91 #[.pointer (some ⟨Bs, 0, none⟩)] (encZ hs) (KpB n₀ Bs) (fun ys => ys = backz m m) (fun pre => ∃ k, k ≤ m ∧ pre = backz m k) m w := fun l J Jx W hW _ _ hY h0 => by
  have hc' := (hW.cell (p := ⟨Bs, 0, none⟩) hBs).trans hc
  have hlen : hs.length = m := by have := hR.1.1; rw [flat2_len zhv zhv_len] at this; omega
  rcases Nat.eq_zero_or_pos m with e0 | e0
  · subst e0
    exact (backz1_nil F n h7 hro l Bs c A J W hc' h0).mono fun e W' ⟨he, hj⟩ => ⟨he, .inl ⟨_, rfl, hj⟩⟩
  · obtain ⟨b, off, e, hb, hcs⟩ := (hR.below hW).2 (by omega)
    subst e
    refine backz1_in F n h7 hro hn l Bs n₀ b off m c hs hlen hm (hA _ rfl (by omega)) J Jx hY W hc' (fun j hj => ?_) h0
    have hg : hs[j]? = some (hnz hs j) := by unfold hnz; rw [List.getElem?_eq_getElem (by omega)]; rfl
    have hf := fun t ht => flat2 zhv zhv_len hs j t _ hg ht
    constructor
    · have := hf 0 (by omega); rw [Nat.add_zero] at this; rw [hcs _ (by omega), this]; rfl
    · rw [Nat.add_assoc, hcs _ (by omega), hf 1 (by omega)]; rfl
end Go.Proofs.Ytphofjinncbaaaa
namespace Go.Proofs.Ytphofjinncbaaaa
open Go.RowKit Go.Shelf
set_option linter.unusedVariables false
set_option linter.unusedSimpArgs false
attribute [local go_sem] Oper.semAt_some

/-- a round: out * q + c -/
def cst (zs qs o : List Int) (x : Nat) : List Int := ztr (zaddl (ztr (zmull (ztr o) (ztr qs))) [zn zs x])
def cpl (zs qs : List Int) (pre : List Nat) : List Int := pre.foldl (cst zs qs) []
theorem cpl_snoc (zs qs : List Int) (pre : List Nat) (x : Nat) : cpl zs qs (pre ++ [x]) = cst zs qs (cpl zs qs pre) x := by simp [cpl]
theorem row_keptN {B s k : Nat} {e : TypeId} {v : Value} {xs : List Value} {X Y : World} {row : Option Nat} (hr : X.ownsRow B e s v k xs) (hg : X.grownBy Y row) (hrow : ∀ r, row = some r → ∃ o : Obj, X.heap[r]? = some o ∧ o.isCells = false) : Y.ownsRow B e s v k xs := by
  refine hr.kept hg ?_
  rcases hr.2 with ⟨rfl, _⟩ | ⟨g, cap, cur, rfl, _, hgb, _⟩
  · exact .inl rfl
  · refine .inr fun e' => ?_
    obtain ⟨o, ho, hc⟩ := hrow g (by simpa [Value.ownBlock] using e'.symm)
    rw [hgb] at ho; cases ho; cases hc
theorem zpo_keptN {B L : Nat} {v : Value} {zs : List Int} {X Y : World} {row : Option Nat} (H : ZPO B L X v zs) (hg : X.grownBy Y row) (hrow : ∀ r, row = some r → ∃ o : Obj, X.heap[r]? = some o ∧ o.isCells = false) : ZPO B L Y v zs := by
  obtain ⟨A, n, c, hs, rfl, h1, h2, h3⟩ := H
  exact ⟨A, n, c, hs, rfl, row_keptN h1 hg hrow, h2, h3.imp fun _ _ e => ⟨e.1, row_keptN e.2.1 hg hrow, e.2.2⟩⟩
theorem holdsZ_own {β : Type} (B0 B K b : Nat) (t : TypeId) (f : β → List Int) : OwnFrom B0 (fun s W => ∃ v, Boxed W b t v ∧ ZPO B K W v (f s)) := by
  rintro s X Y row ⟨v, hv, hz⟩ hg hrow0
  have hrow : ∀ r, row = some r → ∃ o : Obj, X.heap[r]? = some o ∧ o.isCells = false := fun r e => (hrow0 r e).2
  refine ⟨v, hv.kept hg (fun e' => ?_), zpo_keptN hz hg hrow⟩
  obtain ⟨o, ho, hc⟩ := hrow b e'.symm
  rw [show X.heap[b]? = _ from hv] at ho; cases ho; cases hc
theorem canz_default {B L : Nat} {w : World} {hs : List Hz} {zs : List Int} (h : All2 (CanZ B L w) hs zs) (x : Nat) : CanZ B L w (hnz hs x) (zn zs x) := by
  unfold hnz zn
  by_cases hx : x < zs.length
  · have hx2 : x < hs.length := by rw [h.1]; exact hx
    rw [List.getElem?_eq_getElem hx, List.getElem?_eq_getElem hx2]
    exact h.2 x _ _ (List.getElem?_eq_getElem hx2) (List.getElem?_eq_getElem hx)
  · rw [List.getElem?_eq_none (l := zs) (by omega), List.getElem?_eq_none (l := hs) (by rw [h.1]; omega)]
    exact canz_zero
theorem zpo_keptLow {B L : Nat} {v : Value} {zs : List Int} {X Y : World} {row : Option Nat} (H : ZPO B L X v zs) (hg : X.grownBy Y row) (hrow : ∀ r, row = some r → r < B) : ZPO B L Y v zs := by
  have key : ∀ {s k : Nat} {e : TypeId} {v : Value} {xs : List Value}, X.ownsRow B e s v k xs → Y.ownsRow B e s v k xs := by
    intro s k e v xs hr
    refine hr.kept hg ?_
    rcases hr.2 with ⟨rfl, _⟩ | ⟨g, cap, cur, rfl, _, hgb, _⟩
    · exact .inl rfl
    · refine .inr fun e' => ?_
      have h1 := hrow g (by simpa [Value.ownBlock] using e'.symm)
      have h2 := (World.ownsRow.lt hr g rfl).1
      omega
  obtain ⟨A, n, c, hs, rfl, h1, h2, h3⟩ := H
  exact ⟨A, n, c, hs, rfl, key h1, h2, h3.imp fun _ _ e => ⟨e.1, key e.2.1, e.2.2⟩⟩
theorem zco_map (zs : List Int) : (zs.map zco).map zv = zs := by
  rw [List.map_map]
  exact (List.map_congr_left fun z _ => zv_zco z).trans (List.map_id _)
theorem ZPO.shape {B L : Nat} {v : Value} {zs : List Int} {X : World} (H : ZPO B L X v zs) : ∃ A n c, v = .slice A n c := by
  obtain ⟨A, n, c, _, e, _⟩ := H
  exact ⟨A, n, c, e⟩
set_option maxRecDepth 100000 in
set_option maxHeartbeats 4000000 in
theorem compose_any {A A2 : Option Addr} {n c n2 c2 L M K : Nat} {rs rs2 : List Zc} {w : World} (h : ZPI L w (.slice A n c) rs) (h2 : ZPI M w (.slice A2 n2 c2) rs2) (hL : L ≤ 4294967296) (hM : M ≤ 4294967296) (hKb : K ≤ 4294967296) (hn : n ≤ 1048576) (hn2 : n2 ≤ 1048576)
    (hK : ∀ pre, pre.length ≤ (ztr (rs.map zv)).length → (∀ z ∈ cpl (ztr (rs.map zv)) (rs2.map zv) pre, z.natAbs < W ^ K) ∧ (cpl (ztr (rs.map zv)) (rs2.map zv) pre).length ≤ 1048576 ∧ (ztr (zmull (ztr (cpl (ztr (rs.map zv)) (rs2.map zv) pre)) (ztr (rs2.map zv)))).length ≤ 1048576)
    (hP : ∀ pre, pre.length < (ztr (rs.map zv)).length → ∀ i j, i < (ztr (cpl (ztr (rs.map zv)) (rs2.map zv) pre)).length → j ≤ (ztr (rs2.map zv)).length → ∀ z ∈ mrow (mall (ztr (cpl (ztr (rs.map zv)) (rs2.map zv) pre)) (ztr (rs2.map zv)) ((ztr (cpl (ztr (rs.map zv)) (rs2.map zv) pre)).length + (ztr (rs2.map zv)).length - 1) i) (zn (ztr (cpl (ztr (rs.map zv)) (rs2.map zv) pre)) i) (ztr (rs2.map zv)) i j, z.natAbs < W ^ K) :
    Calls Try.prog 34 #[.slice A n c, .slice A2 n2 c2] w (GZP w K (ztr (cpl (ztr (rs.map zv)) (rs2.map zv) (backz (ztr (rs.map zv)).length (ztr (rs.map zv)).length)))) := by
  have H2 := Lib.hid h2
  have hle : (ztr (rs.map zv)).length ≤ 1048576 := by rw [ztr_len]; have h1 := ztl_le (rs.map zv); rw [List.length_map] at h1; have := h.len.1; omega
  have CN := Lib.hid fun w' (hb : Below w.heap.size w w') => zpnorm_any (h.below hb) (by omega) (by omega)
  generalize ztr (rs.map zv) = zs at *
  have HK := Lib.hid hK
  have HP := Lib.hid hP
  clear h h2 hK hP
  have HBA : Hid (Below w.heap.size w (World.alloc w (.cells #[.slice A2 n2 c2] 43))) := belowA _ _
  refine (callsIn_wide (n := 6)).1 ?_
  refine callsIn_of_wp_marks Try.func34 rfl trivial ?_ rfl
  simp only [Try.ntmps34, List.size_toArray, List.length_cons, List.length_nil, Nat.reduceAdd, Nat.reduceSub, Array.replicate_succ, Array.replicate_zero, List.push_toArray, List.append_toArray, List.nil_append, List.cons_append]
  gi_wp2_with (first
    | (refine ⟨trivial, ?_⟩; gi_at_call 21; refine (callsIn_wide.2 (CN.out _ HBA.out)).mono ?_; rintro e wa ⟨A4, n4, c4, rfl, hp4, hba⟩)
    | (refine ⟨trivial, ?_⟩; gi_at_call 61; refine (backwardz_in Fence.wide _ trivial rfl _ _ _ _).mono ?_; rintro e w' ⟨rfl, rfl⟩))
  have HN4 : Hid (n4 = zs.length) := hp4.len
  have hn4 : n4 ≤ 1048576 := by have := HN4.out; omega
  obtain ⟨_, _, _, hs, ee, k1, k2, k3⟩ := id hp4
  injection ee with e1 e2 e3
  subst e1 e2 e3
  have HLI : Hid (∀ a, A4 = some a → a.block < wa.heap.size) := fun a e => (hp4.lies a e).2
  have K1 := Lib.hid k1
  have K3 := Lib.hid k3
  have hsz : w.heap.size < wa.heap.size := by have := hba.size; simp at this; omega
  have HWA : Hid (Below w.heap.size w wa) := bt HBA.out hba
  have bQ : Boxed wa w.heap.size 43 (.slice A2 n2 c2) := (hba.block _ (Boxed.new w 43 (.slice A2 n2 c2)).lt).trans (Boxed.new w 43 (.slice A2 n2 c2))
  have bO := Boxed.new wa 43 (.slice none 0 0)
  have bS := Boxed.new (wa.alloc (.cells #[.slice none 0 0] 43)) 43 (.slice A4 n4 c4)
  simp only [World.size_alloc] at bS
  have hB9 : Below wa.heap.size wa ((wa.alloc (.cells #[.slice none 0 0] 43)).alloc (.cells #[.slice A4 n4 c4] 43)) := ((Below.refl _ wa).alloc (Nat.le_refl _) _).alloc (by simp) _
  have K9 := Lib.hid (k1.rd.below hB9)
  clear k1 k2 k3 hp4 hba CN
  refine wpIn_rangeFunc_ownH rfl (by omega) (gf := 91) (lb := #[.pointer (some ⟨wa.heap.size + 1, 0, none⟩)]) rfl trivial (enters_of Try.func91 (by kernel_rfl) rfl)
    (backwardz_stops Fence.wide 5 trivial rfl (by omega) (wa.heap.size + 1) wa.heap.size A4 n4 c4 hs _ (by omega) (by simp) (by simp; omega) bS.cell K9.out (fun a e _ => HLI.out a e)) kpb_t (kpb_b (by simp; omega)) (Below.refl _ _) (fun _ => rfl)
    (fun pre wr => (∃ v, Boxed wr wa.heap.size 43 v ∧ ZPO w.heap.size K wr v (cpl zs (rs2.map zv) pre)) ∧ (Boxed wr w.heap.size 43 (.slice A2 n2 c2) ∧ Below wa.heap.size wa wr ∧ wa.heap.size + 2 ≤ wr.heap.size))
    (fun _ _ _ => False)
    (OwnFrom.and (holdsZ_own _ _ _ _ _ _) (OwnFrom.and (Own.from (boxed_own _ _ _) _) (OwnFrom.and (ownFrom_below (Nat.le_refl _) (by simp; omega)) (fun _ _ _ _ hs hg _ => Nat.le_trans hs hg.size))))
    (fun _ _ _ _ _ hs _ _ => hs)
    ⟨⟨_, bO.alloc _, ZPO.nil⟩, (bQ.alloc _).alloc _, hB9, by simp⟩
    (fun x a' W => ∃ b0, wa.heap.size + 1 < b0 ∧ W.heap[b0]? = some (.cells #[.bool (hnz hs x).1, shv (hnz hs x).2] 47) ∧ a' = { tmps := #[.slice A4 n4 c4, .slice A2 n2 c2, undef, .pointer (some ⟨w.heap.size, 0, none⟩), .slice none 0 0, .pointer (some ⟨wa.heap.size, 0, none⟩), undef, .pointer (some ⟨b0, 0, none⟩), .slice A n c, .slice A4 n4 c4, .slice A4 n4 c4, .func (.func 91) #[] #[.pointer (some ⟨wa.heap.size + 1, 0, none⟩)], .int .i64 (x : Int), .agg #[.bool (hnz hs x).1, shv (hnz hs x).2], undef, undef, undef, undef, undef, undef, undef, undef], defers := [] })
    (by
      rintro x a' u X Y row ⟨b0, g1, g2, g3⟩ hg hrow
      refine ⟨b0, g1, (hg.block b0 (Array.getElem?_eq_some_iff.1 g2).1 (fun e => ?_)).trans g2, g3⟩
      obtain ⟨o, ho, hc⟩ := (hrow b0 e.symm).2
      rw [g2] at ho; cases ho; cases hc) ?assign ?body ?done ?stop
  case assign =>
    rintro l pre x wr K ⟨⟨v, bx, hz⟩, bb, hB, hS⟩ hK
    unfold encZ shv
    gi_wp2
    refine hK _ _ ((⟨by simp, fun k o hk _ => ((belowA wr _).block k (Array.getElem?_eq_some_iff.1 hk).1).trans hk⟩ : KeepsOthers wr _).from _) ⟨(Below.refl _ _).alloc hB.size _, fun v hv => ((belowA _ _).cell (p := ⟨wa.heap.size + 1, 0, none⟩) (cell_lt' hv)).trans hv⟩ ⟨⟨v, bx.alloc _, hz.below (belowA _ _)⟩, bb.alloc _, hB.alloc hB.size _, by simp; omega⟩ ⟨wr.heap.size, by omega, World.alloc_heap_new _ _, rfl⟩
  case stop =>
    rintro D cc pre wr _ _ h _
    exact h.elim
  case body =>
    rintro l pre x a' wr - - ⟨⟨v, bx, hz⟩, bb, hB, hS⟩ ⟨b0, hb0, hbx, rfl⟩ hpl
    obtain ⟨A1, n1, c1, rfl⟩ := hz.shape
    have hpl' : pre.length < zs.length := by have := HN4.out; omega
    have hcan : CanZ (w.alloc (.cells #[.slice A2 n2 c2] 43)).heap.size L wr (hnz hs x) (zn zs x) := canz_default (K3.out.imp fun _ _ e => e.below hB) x
    obtain ⟨k1, k2, k3⟩ := HK.out pre (by omega)
    have hK' := HK.out (pre ++ [x]) (by simp; omega)
    have hn1 : n1 ≤ 1048576 := by rw [hz.len]; exact k2
    have hD : Below wr.heap.size wr wr.drew := (Below.refl _ _).drew
    have CM := Lib.hid fun w' (hb : Below wr.heap.size wr w') => zpmul_any (K := K) (hz.below hb).c.inp (H2.out.below (bt (bt HWA.out hB) hb)) hKb hM (by omega) hn1 hn2 (by rw [zco_map]; exact fun i j => HP.out pre hpl' i j)
    rw [zco_map] at CM
    have g_o := At.grow (w := wr) (p := ⟨wa.heap.size, 0, none⟩) (v := .slice A1 n1 c1) ⟨bx.cell, bx.lt⟩
    have g_q := At.grow (w := wr) (p := ⟨w.heap.size, 0, none⟩) (v := .slice A2 n2 c2) ⟨bb.cell, bb.lt⟩
    have g_a := At.grow (w := wr) (p := ⟨b0, 0, none⟩) (v := .bool (hnz hs x).1) ⟨by simp [World.cell?, hbx], (Array.getElem?_eq_some_iff.1 hbx).1⟩
    have g_b := At.grow (w := wr) (p := ⟨b0, 1, none⟩) (v := shv (hnz hs x).2) ⟨by simp [World.cell?, hbx], (Array.getElem?_eq_some_iff.1 hbx).1⟩
    have e_o := bx.cell
    have e_q := bb.cell
    have e_a : wr.cell? ⟨b0, 0, none⟩ = some (.bool (hnz hs x).1) := by simp [World.cell?, hbx]
    have e_b : wr.cell? ⟨b0, 1, none⟩ = some (shv (hnz hs x).2) := by simp [World.cell?, hbx]
    have FIN := Lib.hid fun (w6 : World) (A6 : Option Addr) (n6 c6 : Nat) (hB6 : Below wr.heap.size wr w6) (h6 : ZPO wr.heap.size K w6 (.slice A6 n6 c6) (cpl zs (rs2.map zv) (pre ++ [x]))) => (by
      have bx6 : Boxed w6 wa.heap.size 43 (.slice A1 n1 c1) := (hB6.block _ bx.lt).trans bx
      have bb6 : Boxed w6 w.heap.size 43 (.slice A2 n2 c2) := (hB6.block _ bb.lt).trans bb
      have hl := bx.lt
      refine ⟨((⟨hB6.size, fun k o hk _ => (hB6.block k (Array.getElem?_eq_some_iff.1 hk).1).trans hk⟩ : KeepsOthers wr w6).trans (KeepsOthers.setCell _ _ _)).from _, ⟨(hB6.mono hB.size).setCell (p := ⟨wa.heap.size, 0, none⟩) (Nat.le_refl _) _, fun v hv => cell_setOther ((hB6.cell (p := ⟨wa.heap.size + 1, 0, none⟩) (cell_lt' hv)).trans hv) (by omega)⟩, ⟨_, bx6.set _, (zpo_keptLow h6 (grownBy_setCell' w6 wa.heap.size _) (fun r e => by cases e; exact hl)).mono (Nat.le_trans (Nat.le_of_lt hsz) hB.size)⟩, bb6.other (by omega) _, (hB.trans (hB6.mono hB.size)).setCell (p := ⟨wa.heap.size, 0, none⟩) (Nat.le_refl _) _, ?_⟩
      have := hB6.size
      simp
      omega :
      KeepsFrom ((wa.alloc (.cells #[.slice none 0 0] 43)).alloc (.cells #[.slice A4 n4 c4] 43)).heap.size wr (w6.setCell ⟨wa.heap.size, 0, none⟩ (.slice A6 n6 c6)) ∧ KpB wa.heap.size (wa.heap.size + 1) wr (w6.setCell ⟨wa.heap.size, 0, none⟩ (.slice A6 n6 c6)) ∧ (∃ v, Boxed (w6.setCell ⟨wa.heap.size, 0, none⟩ (.slice A6 n6 c6)) wa.heap.size 43 v ∧ ZPO w.heap.size K (w6.setCell ⟨wa.heap.size, 0, none⟩ (.slice A6 n6 c6)) v (cpl zs (rs2.map zv) (pre ++ [x]))) ∧ (Boxed (w6.setCell ⟨wa.heap.size, 0, none⟩ (.slice A6 n6 c6)) w.heap.size 43 (.slice A2 n2 c2) ∧ Below wa.heap.size wa (w6.setCell ⟨wa.heap.size, 0, none⟩ (.slice A6 n6 c6)) ∧ wa.heap.size + 2 ≤ (w6.setCell ⟨wa.heap.size, 0, none⟩ (.slice A6 n6 c6)).heap.size))
    have CA := Lib.hid fun w5 A5 n5 c5 b9 (hL9 : Below wr.heap.size wr w5) (h5 : ZPO wr.heap.size K w5 (.slice A5 n5 c5) (ztr (zmull (ztr (cpl zs (rs2.map zv) pre)) (ztr (rs2.map zv))))) (h9 : ZB b9 (w.alloc (.cells #[.slice A2 n2 c2] 43)).heap.size L w5 (zn zs x)) => (zpadd_any (h5.c.inp) (ZPO.c h9).inp (by omega) (by omega) (by rw [h5.len]; exact k3) (by omega) : Calls Try.prog 62 #[.slice A5 n5 c5, .slice (some ⟨b9, 0, none⟩) 1 1] w5 _)
    simp only [zco_map] at CA
    have e_c := Lib.hid (cpl_snoc zs (rs2.map zv) pre x)
    have HCN := Lib.hid hcan
    have HW0 : (w.alloc (.cells #[.slice A2 n2 c2] 43)).heap.size ≤ wr.heap.size := by have := hB.size; simp; omega
    have HW := Lib.hid HW0
    clear HW0
    have HCP : Hid (∀ z ∈ cst zs (rs2.map zv) (cpl zs (rs2.map zv) pre) x, z.natAbs < W ^ K) := by have := hK'.1; rw [cpl_snoc] at this; exact this
    clear hcan hz bb k1 k2 k3 hK'
    gi_wp2
    refine wpIn_region_fork [0,1,3] 2 4 [(1,4),(1,5),(2,6)] [(1,2),(1,5),(2,6)] (by kernel_rfl) (by kernel_rfl) (by kernel_rfl) ?_ ?_
    · show wpS _ _ _ [(0, 0), (0, 1), (0, 3), (1, 2), (1, 4), (1, 5), (2, 6)] _ _
      repeat (first | (refine sord_pas (by rfl) (fun K hK => ?_); go_simp; refine hK _ _ (fun w' hw' => (by first | (go_simp; done) | (go_simp; intro hh; cases hh))) ?_; clear hK K) | (refine sord_pasT (by rfl) (fun K hK => ?_); go_simp; refine hK _ _ (fun w' hw' => (by first | (go_simp; done) | (go_simp; intro hh; cases hh))) ?_; clear hK K))
      (refine sord_call (by rfl) (fun K hK => ?_); go_simp; refine hK _ _ ?_; clear hK K)
      refine (CM.out _ hD).mono ?_
      rintro e w2 ⟨A5, n5, c5, rfl, ho5, hb5⟩
      refine ⟨_, rfl, Grow.of_below hb5, ?_⟩
      (refine sord_norm (fun K hK => ?_); go_simp; refine hK _ ?_; clear hK K)
      repeat (first | (refine sord_pas (by rfl) (fun K hK => ?_); go_simp; refine hK _ _ (fun w' hw' => (by first | (go_simp; done) | (go_simp; intro hh; cases hh))) ?_; clear hK K) | (refine sord_pasT (by rfl) (fun K hK => ?_); go_simp; refine hK _ _ (fun w' hw' => (by first | (go_simp; done) | (go_simp; intro hh; cases hh))) ?_; clear hK K))
      (refine sord_act (by rfl) (fun K hK => ?_); go_simp)
      refine hK _ _ ⟨Grow.of_below (belowA _ _), ?_⟩
      clear hK K
      repeat (first | (refine sord_pas (by rfl) (fun K hK => ?_); go_simp; refine hK _ _ (fun w' hw' => (by first | (go_simp; done) | (go_simp; intro hh; cases hh))) ?_; clear hK K) | (refine sord_pasT (by rfl) (fun K hK => ?_); go_simp; refine hK _ _ (fun w' hw' => (by first | (go_simp; done) | (go_simp; intro hh; cases hh))) ?_; clear hK K))
      (refine sord_call (by rfl) (fun K hK => ?_); go_simp; refine hK _ _ ?_; clear hK K)
      have hB2 := bt hD hb5
      refine (CA.out _ _ _ _ _ (bt hB2 (belowA _ _)) (ho5.below (belowA _ _)) (ZB.new (HCN.out.below hB2) rfl (Nat.le_trans HW.out hB2.size))).mono ?_
      rintro e w6 ⟨A6, n6, c6, rfl, ho6, hb6⟩
      refine ⟨_, rfl, Grow.of_below hb6, ?_⟩
      (refine sord_norm (fun K hK => ?_); go_simp; refine hK _ ?_; clear hK K)
      have hB6 := bt (bt hB2 (belowA _ _)) hb6
      have bx6 : Boxed w6 wa.heap.size 43 (.slice A1 n1 c1) := (hB6.block _ bx.lt).trans bx
      have hc6 := bx6.cell
      have hf6 := bx6.frozen
      (refine sord_store (by rfl) (fun K hK => ?_); go_simp; refine hK _ _ ?_; clear hK K)
      refine sord_nil ?_
      refine FIN.out _ _ _ _ hB6 ?_
      rw [e_c.out]
      exact (ho6.bound HCP.out).mono (bt hB2 (belowA _ _)).size
    · show wpS _ _ _ [(0, 0), (0, 1), (0, 3), (1, 4), (1, 2), (1, 5), (2, 6)] _ _
      repeat (first | (refine sord_pas (by rfl) (fun K hK => ?_); go_simp; refine hK _ _ (fun w' hw' => (by first | (go_simp; done) | (go_simp; intro hh; cases hh))) ?_; clear hK K) | (refine sord_pasT (by rfl) (fun K hK => ?_); go_simp; refine hK _ _ (fun w' hw' => (by first | (go_simp; done) | (go_simp; intro hh; cases hh))) ?_; clear hK K))
      (refine sord_act (by rfl) (fun K hK => ?_); go_simp)
      refine hK _ _ ⟨Grow.of_below (belowA _ _), ?_⟩
      clear hK K
      repeat (first | (refine sord_pas (by rfl) (fun K hK => ?_); go_simp; refine hK _ _ (fun w' hw' => (by first | (go_simp; done) | (go_simp; intro hh; cases hh))) ?_; clear hK K) | (refine sord_pasT (by rfl) (fun K hK => ?_); go_simp; refine hK _ _ (fun w' hw' => (by first | (go_simp; done) | (go_simp; intro hh; cases hh))) ?_; clear hK K))
      (refine sord_call (by rfl) (fun K hK => ?_); go_simp; refine hK _ _ ?_; clear hK K)
      have hB2 := bt hD (belowA wr.drew (.cells #[.bool (hnz hs x).1, shv (hnz hs x).2] 47))
      refine (CM.out _ hB2).mono ?_
      rintro e w2 ⟨A5, n5, c5, rfl, ho5, hb5⟩
      refine ⟨_, rfl, Grow.of_below hb5, ?_⟩
      (refine sord_norm (fun K hK => ?_); go_simp; refine hK _ ?_; clear hK K)
      repeat (first | (refine sord_pas (by rfl) (fun K hK => ?_); go_simp; refine hK _ _ (fun w' hw' => (by first | (go_simp; done) | (go_simp; intro hh; cases hh))) ?_; clear hK K) | (refine sord_pasT (by rfl) (fun K hK => ?_); go_simp; refine hK _ _ (fun w' hw' => (by first | (go_simp; done) | (go_simp; intro hh; cases hh))) ?_; clear hK K))
      (refine sord_call (by rfl) (fun K hK => ?_); go_simp; refine hK _ _ ?_; clear hK K)
      have hB3 := bt hB2 hb5
      refine (CA.out _ _ _ _ _ hB3 (ho5.mono hB2.size) ((ZB.new (HCN.out.below hD) rfl (Nat.le_trans HW.out hD.size)).below hb5)).mono ?_
      rintro e w6 ⟨A6, n6, c6, rfl, ho6, hb6⟩
      refine ⟨_, rfl, Grow.of_below hb6, ?_⟩
      (refine sord_norm (fun K hK => ?_); go_simp; refine hK _ ?_; clear hK K)
      have hB6 := bt hB3 hb6
      have bx6 : Boxed w6 wa.heap.size 43 (.slice A1 n1 c1) := (hB6.block _ bx.lt).trans bx
      have hc6 := bx6.cell
      have hf6 := bx6.frozen
      (refine sord_store (by rfl) (fun K hK => ?_); go_simp; refine hK _ _ ?_; clear hK K)
      refine sord_nil ?_
      refine FIN.out _ _ _ _ hB6 ?_
      rw [e_c.out]
      exact (ho6.bound HCP.out).mono hB3.size
  case done =>
    rintro Dk ys wr hD hys ⟨⟨v, bx, hz⟩, bb, hB, hS⟩ hK
    rw [HN4.out] at hys
    subst hys
    obtain ⟨A1, n1, c1, rfl⟩ := hz.shape
    have hcA := bx.cell
    have hk := HK.out (backz zs.length zs.length) (by rw [backz_length]; exact Nat.le_refl _)
    have hn1 : n1 ≤ 1048576 := by rw [hz.len]; exact hk.2.1
    have CN := Lib.hid (zpnorm_any hz.c.inp (by omega) (by omega))
    rw [zco_map] at CN
    clear bb HK HP hk
    gi_wp2_with (refine ⟨trivial, ?_⟩; gi_at_call 21; refine (callsIn_wide.2 CN.out).mono ?_; rintro e w4 ⟨A5, n5, c5, rfl, ho4, hb4⟩)
    have hK4 : w4.heap[Dk]? = some (Obj.deferred (some [])) := (hb4.block _ (Array.getElem?_eq_some_iff.1 hK).1).trans hK
    have hDs : wa.heap.size + 2 ≤ Dk := by simpa using hD
    refine ⟨by simp, .inl ⟨_, _, rfl, run_takeDeferred hK4, ?_⟩⟩
    have hB4 := bt (bt HWA.out hB) hb4
    have hB5 := hB4.trans (belowK_b (w := w) (Nat.le_refl _) w4 Dk _ (.deferred none) (by omega) hK4 rfl rfl)
    refine ⟨_, results_tmp rfl _ _ _, A5, n5, c5, rfl, (zpo_keptN ho4 (grownBy_putObj' w4 Dk _) (fun r e => by cases e; exact ⟨_, hK4, rfl⟩)).mono (bt HWA.out hB).size, hB5⟩
end Go.Proofs.Ytphofjinncbaaaa
namespace Go.Proofs.Ytphofjinncbaaaa
open Go.RowKit
set_option linter.unusedVariables false
set_option linter.unusedSimpArgs false

set_option maxHeartbeats 1000000 in
theorem line_any {h1 h2 : Hz} {r1 r2 : Zc} {L : Nat} {w : World} (ha : RawZ L w h1 r1) (hb : RawZ L w h2 r2) (hL : L ≤ 1099511627776) :
    Calls Try.prog 50 #[.agg #[.bool h1.1, shv h1.2], .agg #[.bool h2.1, shv h2.2]] w (GZP w L (ztr [zv r2, zv r1])) := by
  obtain ⟨s1, A1, n1, c1⟩ := h1
  obtain ⟨s2, A2, n2, c2⟩ := h2
  simp only [shv]
  have C := Lib.hid fun w' (hB : Below w.heap.size w w') => zpnorm_any (A := some ⟨w'.heap.size, 0, none⟩) (n := 2) (c := 2) (w := w'.alloc (.cells #[.bool s2, .slice A2 n2 c2, .bool s1, .slice A1 n1 c1] 47)) (rs := [r2, r1]) ⟨_, 2, 2, [(s2, (A2, n2, c2)), (s1, (A1, n1, c1))], rfl, (RowK.lit (k := 2) (T := 47) (B := 0) w' 2 [.bool s2, .slice A2 n2 c2, .bool s1, .slice A1 n1 c1] rfl rfl (by omega) (Nat.zero_le _)).rd, rfl, ((All2.nil.snoc ((hb.below hB).below (belowA _ _))).snoc ((ha.below hB).below (belowA _ _)) : All2 (RawZ L _) ([] ++ [(s2, (A2, n2, c2))] ++ [(s1, (A1, n1, c1))]) ([] ++ [r2] ++ [r1]))⟩ hL (by omega)
  have C := C.out _ (((Below.refl _ w).alloc (Nat.le_refl _) (.cells #[.bool s1, .slice A1 n1 c1] 47)).alloc (by simp) (.cells #[.bool s2, .slice A2 n2 c2] 47))
  have HC := Lib.hid C
  clear C ha hb
  go_enter Try.func50, Try.ntmps50
  go_wp2_with fail
  simp only [World.size_alloc] at HC
  refine HC.out.mono ?_
  rintro e w1 ⟨A3, n3, c3, rfl, h3, hb3⟩
  have HR := Lib.hid (And.intro h3 hb3)
  clear h3 hb3 HC
  go_wp2
  go_ret
  exact ⟨A3, n3, c3, rfl, HR.out.1.mono (by simp; omega), bt (((Below.refl _ w).alloc (Nat.le_refl _) _).alloc (by simp) _) (bt (belowA _ _) HR.out.2)⟩

/-- p(x + a) -/
def shl1 (zs : List Int) (a : Int) : List Int := ztr (cpl zs (ztr [a, 1]) (backz zs.length zs.length))
set_option maxHeartbeats 1000000 in
theorem shift_any {A A2 : Option Addr} {n c n2 c2 y L M K : Nat} {t : Bool} {rs : List Zc} {w : World} (h : ZPI L w (.slice A n c) rs) (h2 : Num w (.slice A2 n2 c2) y M) (hL : L ≤ 4294967296) (hM : M ≤ 4294967296) (hM1 : 1 ≤ M) (hKb : K ≤ 4294967296) (hn : n ≤ 1048576)
    (hK : ∀ pre, pre.length ≤ (ztr (rs.map zv)).length → (∀ z ∈ cpl (ztr (rs.map zv)) (ztr [sg t y, 1]) pre, z.natAbs < W ^ K) ∧ (cpl (ztr (rs.map zv)) (ztr [sg t y, 1]) pre).length ≤ 1048576 ∧ (ztr (zmull (ztr (cpl (ztr (rs.map zv)) (ztr [sg t y, 1]) pre)) (ztr (ztr [sg t y, 1])))).length ≤ 1048576)
    (hP : ∀ pre, pre.length < (ztr (rs.map zv)).length → ∀ i j, i < (ztr (cpl (ztr (rs.map zv)) (ztr [sg t y, 1]) pre)).length → j ≤ (ztr (ztr [sg t y, 1])).length → ∀ z ∈ mrow (mall (ztr (cpl (ztr (rs.map zv)) (ztr [sg t y, 1]) pre)) (ztr (ztr [sg t y, 1])) ((ztr (cpl (ztr (rs.map zv)) (ztr [sg t y, 1]) pre)).length + (ztr (ztr [sg t y, 1])).length - 1) i) (zn (ztr (cpl (ztr (rs.map zv)) (ztr [sg t y, 1]) pre)) i) (ztr (ztr [sg t y, 1])) i j, z.natAbs < W ^ K) :
    Calls Try.prog 18 #[.slice A n c, .agg #[.bool t, .slice A2 n2 c2]] w (GZP w K (shl1 (ztr (rs.map zv)) (sg t y))) := by
  have H := Lib.hid h
  have H2 := Lib.hid h2
  have HA := Lib.hid (And.intro hK hP)
  clear h h2 hK hP
  go_enter Try.func18, Try.ntmps18
  go_wp2_with fail
  have T0 := At.boxc (i := 0) (v := .bool t) (t := 47) (b := w.heap.size) w #[.bool t, .slice A2 n2 c2] rfl rfl
  have T1 := At.boxc (i := 1) (v := .slice A2 n2 c2) (t := 47) (b := w.heap.size) w #[.bool t, .slice A2 n2 c2] rfl rfl
  have f0 := T0.1
  have f1 := T1.1
  have g0 := At.grow T0
  have g1 := At.grow T1
  refine wp_region_grow none [(true, 0), (true, 2), (false, 1), (false, 3), (false, 4), (true, 5)] (by kernel_rfl) (by kernel_rfl) ?_
  repeat (refine ord_pas (by rfl) (fun K hK => ?_); go_simp; refine hK _ _ (fun w' hw' => (by first | (go_simp; done) | (go_simp; intro hh; cases hh))) ?_; clear hK K)
  clear f0 f1 g0 g1
  (refine ord_call (by rfl) (fun K hK => ?_); go_simp; refine hK _ _ ?_; clear hK K)
  refine zof_1.mono ?_
  rintro e w1 ⟨A3, n3, c3, s3, rfl, hs3, o3, hb3, l3⟩
  refine ⟨_, rfl, (Grow.of_below hb3), ?_⟩
  (refine ord_norm (fun K hK => ?_); go_simp; refine hK _ ?_; clear hK K)
  have HB1 : Below w.heap.size w w1 := bt (belowA _ _).drew hb3
  repeat (refine ord_pas (by rfl) (fun K hK => ?_); go_simp; refine hK _ _ (fun w' hw' => (by first | (go_simp; done) | (go_simp; intro hh; cases hh))) ?_; clear hK K)
  (refine ord_call (by rfl) (fun K hK => ?_); go_simp; refine hK _ _ ?_; clear hK K)
  have C1 := line_any (L := M) (h1 := (s3, (A3, n3, c3))) (h2 := (t, (A2, n2, c2))) (r1 := (s3, 1)) (r2 := (t, y)) (w := w1) ⟨rfl, ⟨_, _, _, _, rfl, o3.rd, dg_all W_gt _, dg_val W_gt _, (by show n3 ≤ M; omega)⟩⟩ ⟨rfl, H2.out.below HB1⟩ (by omega)
  have e1 : [zv (t, y), zv (s3, 1)] = [sg t y, 1] := by
    have : s3 = false := by rw [hs3.out]; rfl
    subst this
    rfl
  rw [e1] at C1
  refine C1.mono ?_
  rintro e w2 ⟨A4, n4, c4, rfl, h4, hb4⟩
  refine ⟨_, rfl, (Grow.of_below hb4), ?_⟩
  (refine ord_norm (fun K hK => ?_); go_simp; refine hK _ ?_; clear hK K)
  have HB2 : Below w.heap.size w w2 := bt HB1 hb4
  repeat (refine ord_pas (by rfl) (fun K hK => ?_); go_simp; refine hK _ _ (fun w' hw' => (by first | (go_simp; done) | (go_simp; intro hh; cases hh))) ?_; clear hK K)
  (refine ord_call (by rfl) (fun K hK => ?_); go_simp; refine hK _ _ ?_; clear hK K)
  have hn4 : n4 ≤ 1048576 := by rw [h4.len, ztr_len]; have := ztl_le [sg t y, 1]; simp at this; omega
  have C2 := compose_any (K := K) (H.out.below HB2) h4.c.inp hL hM hKb hn hn4 (by rw [zco_map]; exact HA.out.1) (by rw [zco_map]; exact HA.out.2)
  rw [zco_map] at C2
  refine C2.mono ?_
  rintro e w3 ⟨A5, n5, c5, rfl, h5, hb5⟩
  refine ⟨_, rfl, (Grow.of_below hb5), ?_⟩
  (refine ord_norm (fun K hK => ?_); go_simp; refine hK _ ?_; clear hK K)
  repeat (refine ord_pas (by rfl) (fun K hK => ?_); go_simp; refine hK _ _ (fun w' hw' => (by first | (go_simp; done) | (go_simp; intro hh; cases hh))) ?_; clear hK K)
  refine ord_nil ?_
  have HR := Lib.hid (And.intro (h5.mono HB2.size) (bt HB2 hb5))
  clear h5 hb5 HB1 HB2 C1 C2 h4 hb4 hb3 o3
  go_wp2
  go_ret
  exact ⟨A5, n5, c5, rfl, HR.out.1, HR.out.2⟩
end Go.Proofs.Ytphofjinncbaaaa
namespace Go.Proofs.Ytphofjinncbaaaa
open Go.RowKit
set_option linter.unusedVariables false
set_option linter.unusedSimpArgs false

/-- a copy of an integer as it came in -/
def GIW (w : World) (r : Zc) (L : Nat) (e : Ending) (w' : World) : Prop :=
  ∃ s A n c xs, e = .returned (.agg #[.bool s, .slice A n c]) ∧ s = r.1 ∧ Own .u64 76 w.heap.size w' A n c xs ∧ All W xs ∧ val W xs = r.2 ∧ Below w.heap.size w w' ∧ n ≤ L
def RawW (B L : Nat) (w : World) (h : Hz) (r : Zc) : Prop := h.1 = r.1 ∧ ∃ xs, Own .u64 76 B w h.2.1 h.2.2.1 h.2.2.2 xs ∧ All W xs ∧ val W xs = r.2 ∧ h.2.2.1 ≤ L
section
variable {B B' L L' : Nat} {w w' : World} {h : Hz} {r : Zc} {z : Int}
theorem RawW.below (H : RawW B L w h r) (hb : Below w.heap.size w w') : RawW B L w' h r := by
  obtain ⟨h1, xs, h2, h3⟩ := H
  exact ⟨h1, xs, h2.below hb, h3⟩
theorem RawW.raw (H : RawW B L w h r) : RawZ L w h r := by
  obtain ⟨h1, xs, h2, h3, h4, h5⟩ := H
  exact ⟨h1, ⟨_, _, _, xs, rfl, h2.rd, h3, h4, h5⟩⟩
theorem RawW.grown {T : TypeId} {s m : Nat} {vs : List Value} {u : Value} (H : RawW B L w h r) (hr : w.ownsRow B T s u m vs) (hne : 76 ≠ T) (hg : w.grownBy w' u.ownBlock) : RawW B L w' h r := by
  obtain ⟨h1, xs, h2, h3⟩ := H
  exact ⟨h1, xs, h2.other hr hne hg, h3⟩
end
set_option maxHeartbeats 1000000 in
theorem copyInt_any {h : Hz} {r : Zc} {L : Nat} {w : World} (H : RawZ L w h r) (hL : L ≤ 1099511627776) : Calls Try.prog 23 #[.agg #[.bool h.1, shv h.2]] w (GIW w r L) := by
  obtain ⟨s, A, n, c⟩ := h
  obtain ⟨hs, hn⟩ := H
  simp only [shv] at hn ⊢
  have H := Lib.hid hn
  have HSS := Lib.hid hs
  clear hn hs
  go_enter Try.func23, Try.ntmps23
  go_wp2_with fail
  have e_f0 := ((At.boxc (i := 0) (v := .bool s) (t := 47) (b := w.heap.size) w #[.bool s, .slice A n c] rfl (by simp)).below ((Below.refl _ _).alloc (Nat.le_refl _) (.cells #[.bool false, .slice none 0 0] 47))).1
  have g_f0 := At.growS (b := (w.heap.size + 1)) ((At.boxc (i := 0) (v := .bool s) (t := 47) (b := w.heap.size) w #[.bool s, .slice A n c] rfl (by simp)).below ((Below.refl _ _).alloc (Nat.le_refl _) (.cells #[.bool false, .slice none 0 0] 47))) (by simp <;> omega)
  have e_f1 := ((At.boxc (i := 1) (v := .slice A n c) (t := 47) (b := w.heap.size) w #[.bool s, .slice A n c] rfl (by simp)).below ((Below.refl _ _).alloc (Nat.le_refl _) (.cells #[.bool false, .slice none 0 0] 47))).1
  have g_f1 := At.growS (b := (w.heap.size + 1)) ((At.boxc (i := 1) (v := .slice A n c) (t := 47) (b := w.heap.size) w #[.bool s, .slice A n c] rfl (by simp)).below ((Below.refl _ _).alloc (Nat.le_refl _) (.cells #[.bool false, .slice none 0 0] 47))) (by simp <;> omega)
  refine wp_region_grow (some (w.heap.size + 1)) [(true, 0), (true, 1), (true, 2), (true, 3), (false, 4), (true, 5), (false, 6)] (by kernel_rfl) (by kernel_rfl) ?_
  repeat (refine ord_pas (by rfl) (fun K hK => ?_); go_simp; refine hK _ _ (fun w' hw' => (by first | (go_simp; done) | (go_simp; intro hh; cases hh))) ?_; clear hK K)
  (refine ord_call (by rfl) (fun K hK => ?_); go_simp; refine hK _ _ ?_; clear hK K)
  refine (copyN_any (((H.out.below ((Below.refl _ _).alloc (Nat.le_refl _) (.cells #[.bool s, .slice A n c] 47))).below ((Below.refl _ _).alloc (Nat.le_refl _) (.cells #[.bool false, .slice none 0 0] 47))).below (Below.refl _ _).drew) hL).mono ?_
  rintro e w1 ⟨A_q, n_q, c_q, xs_q, rfl, o_q, a_q, v_q, hb1, l_q⟩
  have V_q := Lib.hid v_q
  clear v_q
  refine ⟨_, rfl, Grow.of_below hb1, ?_⟩
  (refine ord_norm (fun K hK => ?_); go_simp; refine hK _ ?_; clear hK K)
  repeat (refine ord_pas (by rfl) (fun K hK => ?_); go_simp; refine hK _ _ (fun w' hw' => (by first | (go_simp; done) | (go_simp; intro hh; cases hh))) ?_; clear hK K)
  have c1 := (((Cel.box (i := 0) (v := .bool false) (t := 47) (b := w.heap.size + 1) (World.alloc w (.cells #[.bool s, .slice A n c] 47)) #[.bool false, .slice none 0 0] rfl (by simp)).below (Below.refl _ _).drew).below hb1)
  have c2 := (((Cel.box (i := 1) (v := .slice none 0 0) (t := 47) (b := w.heap.size + 1) (World.alloc w (.cells #[.bool s, .slice A n c] 47)) #[.bool false, .slice none 0 0] rfl (by simp)).below (Below.refl _ _).drew).below hb1)
  obtain ⟨c1a, c1b, c1c⟩ := c1
  obtain ⟨c2a, c2b, c2c⟩ := c2
  (refine ord_act (by rfl) (fun K hK => ?_); go_simp)
  refine hK _ _ ⟨Grow.trans _ _ _ _ (Grow.set rfl _) (Grow.set rfl _), ?_⟩
  clear hK K
  refine ord_nil ?_
  have HB := Lib.hid (bt (bt (bt ((Below.refl _ _).alloc (Nat.le_refl _) (.cells #[.bool s, .slice A n c] 47)) ((Below.refl _ _).alloc (Nat.le_refl _) (.cells #[.bool false, .slice none 0 0] 47))) (Below.refl _ _).drew) hb1)
  have HO := Lib.hid (And.intro o_q (And.intro a_q l_q))
  clear o_q a_q l_q
  go_wp2
  refine bodyPost_ret (v := .agg #[.bool s, .slice A_q n_q c_q]) (by simp [results, Try.results23, go_sem, c1a, c2a]) rfl ?_
  exact ⟨s, A_q, n_q, c_q, xs_q, rfl, HSS.out, (HO.out.1.cells2 (b := w.heap.size + 1) (by simp)).mono (by simp; omega), HO.out.2.1, V_q.out, below_cells2 HB.out (by omega), HO.out.2.2⟩
theorem sameTd_any {A A2 : Option Addr} {n c m c2 : Nat} {xs ys : List Nat} {d : Bool} {w : World} (h : Rd .u64 w A n c xs) (h' : Rd .u64 w A2 m c2 ys) (hd : decide (xs = ys) = d) (hn : n ≤ 1099511627776) :
    Calls Try.prog 55 #[.slice A n c, .slice A2 m c2] w (Keeps (.bool d) w) :=
  (sameT_any h h' hn).mono fun _ _ ⟨he, q, hq⟩ => ⟨by rw [he, hd], by rw [hq]; exact below_drewN _ _⟩
set_option maxHeartbeats 1000000 in
theorem sameIntT_any {h1 h2 : Hz} {z1 z2 : Int} {L M : Nat} {w : World} (H1 : CanY L w h1 z1) (H2 : CanY M w h2 z2) (hL : L ≤ 1099511627776) :
    Calls Try.prog 24 #[.agg #[.bool h1.1, shv h1.2], .agg #[.bool h2.1, shv h2.2]] w (Keeps (.bool (decide (z1 = z2))) w) := by
  obtain ⟨s, A, n, c⟩ := h1
  obtain ⟨t, A2, m, c2⟩ := h2
  obtain ⟨hs, h, hn⟩ := H1
  obtain ⟨ht, h', hm⟩ := H2
  simp only [shv] at hs h hn ht h' hm ⊢
  have H := Lib.hid h
  have H' := Lib.hid h'
  have hn1 : n ≤ 1099511627776 := by omega
  clear h h' hn hm
  go_enter Try.func24, Try.ntmps24
  have e0 := ((At.boxc (i := 0) (v := .bool s) (t := 47) (b := w.heap.size) w #[.bool s, .slice A n c] rfl (by simp)).below ((Below.refl _ _).alloc (Nat.le_refl _) (.cells #[.bool t, .slice A2 m c2] 47))).1
  have e1 := ((At.boxc (i := 1) (v := .slice A n c) (t := 47) (b := w.heap.size) w #[.bool s, .slice A n c] rfl (by simp)).below ((Below.refl _ _).alloc (Nat.le_refl _) (.cells #[.bool t, .slice A2 m c2] 47))).1
  have e2 := (At.boxc (i := 0) (v := .bool t) (t := 47) (b := w.heap.size + 1) (World.alloc w (.cells #[.bool s, .slice A n c] 47)) #[.bool t, .slice A2 m c2] rfl (by simp)).1
  have e3 := (At.boxc (i := 1) (v := .slice A2 m c2) (t := 47) (b := w.heap.size + 1) (World.alloc w (.cells #[.bool s, .slice A n c] 47)) #[.bool t, .slice A2 m c2] rfl (by simp)).1
  by_cases hst : s = t
  · have q0 : (s == t) = true := by simp [hst]
    obtain ⟨d, hd⟩ : ∃ d, decide (dg W z1.natAbs = dg W z2.natAbs) = d := ⟨_, rfl⟩
    have HD : Hid (decide (z1 = z2) = d) := by
      show _ = _
      rw [← hd]
      refine decide_eq_decide.2 ⟨fun e => by rw [e], fun e => ?_⟩
      have e1 : z1.natAbs = z2.natAbs := by rw [← dg_val W_gt z1.natAbs, e, dg_val W_gt]
      have e2 : sg s z1.natAbs = z1 := sg_of hs
      have e3 : sg t z2.natAbs = z2 := sg_of ht
      rw [← e2, ← e3, e1, hst]
    have HD2 := Lib.hid hd
    clear hd hst hs ht
    go_wp2_with fail
    refine (sameTd_any ((H.out.below ((Below.refl _ _).alloc (Nat.le_refl _) (.cells #[.bool s, .slice A n c] 47))).below ((Below.refl _ _).alloc (Nat.le_refl _) (.cells #[.bool t, .slice A2 m c2] 47))) ((H'.out.below ((Below.refl _ _).alloc (Nat.le_refl _) (.cells #[.bool s, .slice A n c] 47))).below ((Below.refl _ _).alloc (Nat.le_refl _) (.cells #[.bool t, .slice A2 m c2] 47))) HD2.out hn1).mono ?_
    rintro e w1 ⟨rfl, hb1⟩
    have HB : Hid (Below w.heap.size w w1) := (bt (bt ((Below.refl _ _).alloc (Nat.le_refl _) (.cells #[.bool s, .slice A n c] 47)) ((Below.refl _ _).alloc (Nat.le_refl _) (.cells #[.bool t, .slice A2 m c2] 47))) hb1)
    go_wp2
    go_ret
    exact ⟨by rw [HD.out]; rfl, HB.out⟩
  · have q0 : (s == t) = false := by simp [hst]
    have HD : Hid (decide (z1 = z2) = false) := by
      show _ = _
      refine decide_eq_false fun e => hst ?_
      rw [hs, ht, e]
    clear hst hs ht
    have HB : Hid (Below w.heap.size w (World.alloc (World.alloc w (.cells #[.bool s, .slice A n c] 47)) (.cells #[.bool t, .slice A2 m c2] 47))) := (bt ((Below.refl _ _).alloc (Nat.le_refl _) (.cells #[.bool s, .slice A n c] 47)) ((Below.refl _ _).alloc (Nat.le_refl _) (.cells #[.bool t, .slice A2 m c2] 47)))
    go_wp2
    go_ret
    exact ⟨by rw [HD.out]; rfl, HB.out⟩
/-- the loop's relation: i integers are copied -/
def CWI (w : World) (L : Nat) (rs : List Zc) (i : Nat) (A' : Option Addr) (c' : Nat) (wr : World) : Prop :=
  (∃ hs : List Hz, RowK 2 47 w.heap.size wr A' i c' (hs.flatMap zhv) ∧ All2 (RawW w.heap.size L wr) hs (rs.take i)) ∧ Below w.heap.size w wr
/-- a copy of a polynomial as it came in, to be read -/
def GZW (w : World) (L : Nat) (rs : List Zc) (e : Ending) (w' : World) : Prop := ∃ A n c, e = .returned (.slice A n c) ∧ ZPI L w' (.slice A n c) rs ∧ Below w.heap.size w w'
set_option maxHeartbeats 4000000 in
theorem copyZ_any {A : Option Addr} {n c L : Nat} {rs : List Zc} {w : World} (h : ZPI L w (.slice A n c) rs) (hL : L ≤ 268435456) (hn : n ≤ 1073741824) :
    Calls Try.prog 22 #[.slice A n c] w (GZW w L rs) := by
  have H := Lib.hid h
  have HNQ : Hid (n = rs.length) := h.len.1
  clear h
  have HEL := Lib.hid elZ
  go_enter Try.func22, Try.ntmps22
  go_wp2
  go_loopw [3, 9] (fun ov kv wr => ∃ (i : Nat) (A' : Option Addr) (c' : Nat), Hid (CWI w L rs i A' c' wr) ∧ i ≤ n ∧ ov = .slice A' i c' ∧ kv = .int .i64 (i : Int)) (fun _ kv _ => n - (intOf kv).toNat)
  case atStart => exact ⟨0, _, _, ⟨⟨[], by have := RowK.lit (k := 2) (T := 47) (B := w.heap.size) w 0 [] rfl rfl (by omega) (Nat.le_refl _); simpa using this, by simpa using All2.nil⟩, belowA _ _⟩, Nat.zero_le _, rfl, rfl⟩
  case round =>
    obtain ⟨i, A', c', hI, hi, rfl, rfl⟩ := hrel
    by_cases hlt : i < n
    · obtain ⟨b, off, s, A1, n1, c1, r, e, hb, eq, hs, g0, g1, hnum⟩ := (H.out.below hI.out.2).at (i := i) (by have := HNQ.out; omega)
      have HQ := Lib.hid eq
      have HR : Hid (RawZ L wr (s, (A1, n1, c1)) r) := ⟨hs.out, hnum⟩
      subst e
      have i1 : (0 : Int) ≤ (i : Int) := by omega
      have i2 : (i : Int) < (n : Int) := by omega
      have x0 := g0.1
      have x1 := g1.1
      clear eq hs g0 g1 hnum
      have C := Lib.hid (copyInt_any (h := (s, (A1, n1, c1))) (HR.out.below (belowA wr (.cells #[.bool s, .slice A1 n1 c1] 47))) (by omega : L ≤ 1099511627776))
      simp only [shv] at C
      go_wp2_with fail
      refine C.out.mono ?_
      rintro e w1 ⟨s3, A3, n3, c3, xs3, rfl, hs3, o3, a3, v3, hb1, l3⟩
      have HB1 : Hid (Below w.heap.size w w1) := bt (bt hI.out.2 (belowA _ _)) hb1
      obtain ⟨⟨hs', hr1, hr2⟩, -⟩ := hI.out
      have HK := Lib.hid ((hr1.below (belowA _ _)).below hb1)
      have HK2 := Lib.hid (hr2.imp fun _ _ e => (e.below (belowA _ (.cells #[.bool s, .slice A1 n1 c1] 47))).below hb1)
      have HC3 : Hid (RawW w.heap.size L w1 (s3, (A3, n3, c3)) r) := ⟨hs3, xs3, o3.mono (Nat.le_trans hI.out.2.size (belowA _ _).size), a3, v3, l3⟩
      have HS1 : Hid (w.heap.size ≤ w1.heap.size) := HB1.out.size
      clear hb1 o3 a3 v3 hs3 l3 x0 x1 hr1 hr2 hI C
      go_wp2_with (at_builtin; (refine wpList_appK rfl (.tmp 13) (.tmp 16) rfl HEL.out (B := w.heap.size) (us := [.bool s3, .slice A3 n3 c3]) rfl rfl (HK.out.below (belowA _ _)) (RowK.lit (k := 2) (T := 47) (B := 0) w1 1 [.bool s3, .slice A3 n3 c3] (by simp) rfl (by omega) (Nat.zero_le _)).rd (by simp [Value.oneCell']) (by omega) (by omega) (by have := HS1.out; simp; omega) ?_); intro A4 c4 w4 ho hb4 hg4; have HN : Hid (CWI w L rs (i + 1) A4 c4 w4) := ⟨⟨hs' ++ [(s3, (A3, n3, c3))], by simpa [zhv, shv] using ho, by rw [take_snoc HQ.out]; exact (HK2.out.imp fun _ _ e => (e.below (belowA _ _)).grown (HK.out.below (belowA _ _)) (by decide) hg4).snoc ((HC3.out.below (belowA _ _)).grown (HK.out.below (belowA _ _)) (by decide) hg4)⟩, (HB1.out.alloc HS1.out _).trans hb4⟩; clear ho hb4 hg4)
      go_roundw
      case rel => exact ⟨i + 1, A4, c4, HN, by omega, rfl, by go_num⟩
      case measure => simp [intOf]; omega
    · obtain rfl : i = n := by omega
      have HF := hI
      clear hI
      go_wp2
      go_ret
      obtain ⟨⟨hs', hr1, hr2⟩, hb⟩ := HF.out
      refine ⟨A', i, c', rfl, ⟨_, _, _, hs', rfl, hr1.rd, HNQ.out, ?_⟩, hb⟩
      rw [List.take_of_length_le (by have := HNQ.out; omega)] at hr2
      exact hr2.imp fun _ _ e => e.raw
end Go.Proofs.Ytphofjinncbaaaa
namespace Go.Proofs.Ytphofjinncbaaaa
open Go.RowKit
set_option linter.unusedVariables false
set_option linter.unusedSimpArgs false

theorem ZPC.at {i L n c : Nat} {A : Option Addr} {w : World} {zs : List Int} (H : ZPC L w (.slice A n c) zs) (hi : i < zs.length) : ∃ b off s A1 n1 c1, A = some ⟨b, off, none⟩ ∧ b < w.heap.size ∧
    At w ⟨b, off + i * 2, none⟩ (.bool s) ∧ At w ⟨b, off + i * 2 + 1, none⟩ (.slice A1 n1 c1) ∧ CanY L w (s, (A1, n1, c1)) (zn zs i) := by
  obtain ⟨A', n', c', hs, e, h1, h2, h3⟩ := H
  injection e with e1 e2 e3
  subst e1 e2 e3
  obtain ⟨b, off, e, hb, hc⟩ := h1.2 (by omega)
  obtain ⟨hd, r, e1, e2, h4⟩ := h3.at hi
  have hf := fun j hj => flat2 zhv zhv_len hs i j hd e1 hj
  refine ⟨b, off, hd.1, hd.2.1, hd.2.2.1, hd.2.2.2, e, hb, ⟨?_, hb⟩, ⟨?_, hb⟩, by rw [zn_of e2]; exact h4⟩
  · have := hf 0 (by omega); rw [Nat.add_zero] at this; rw [hc _ (by omega), this]; rfl
  · rw [Nat.add_assoc, hc _ (by omega), hf 1 (by omega)]; rfl
theorem ZPC.len {A : Option Addr} {n c L : Nat} {w : World} {zs : List Int} (H : ZPC L w (.slice A n c) zs) : n = zs.length := by
  obtain ⟨_, _, _, hs, e, h1, h2, h3⟩ := H
  injection e with _ e2 e3
  subst e2 e3
  exact h2
set_option maxHeartbeats 4000000 in
theorem sameZ_yes {A A2 : Option Addr} {n c n2 c2 L M : Nat} {zs : List Int} {w : World} (h : ZPC L w (.slice A n c) zs) (h2 : ZPC M w (.slice A2 n2 c2) zs) (hL : L ≤ 1099511627776) (hn : n ≤ 1073741824) :
    Calls Try.prog 17 #[.slice A n c, .slice A2 n2 c2] w (Keeps (.bool true) w) := by
  have H := Lib.hid h
  have H2 := Lib.hid h2
  have HNQ : Hid (n = zs.length) := h.len
  have e : n2 = n := by rw [h.len, h2.len]
  subst e
  clear h h2
  have q0 : ((n2 : Int) != (n2 : Int)) = false := by simp
  have hI0 : Hid (Below w.heap.size w w) := Below.refl _ _
  go_enter Try.func17, Try.ntmps17
  go_wp2
  go_loopw [13] (fun kv wr => ∃ (i : Nat), Hid (Below w.heap.size w wr) ∧ i ≤ n2 ∧ kv = .int .i64 (i : Int)) (fun kv _ => n2 - (intOf kv).toNat)
  case atStart => exact ⟨0, hI0, Nat.zero_le _, rfl⟩
  case round =>
    obtain ⟨i, hI, hi, rfl⟩ := hrel
    by_cases hlt : i < n2
    · obtain ⟨b, off, s, A1, n1, c1, e, hb, g0, g1, hy⟩ := (H.out.below hI.out).at (i := i) (by have := HNQ.out; omega)
      obtain ⟨b2, off2, t, B1, m1, d1, e2, hb2, k0, k1, hy2⟩ := (H2.out.below hI.out).at (i := i) (by have := HNQ.out; omega)
      have C := Lib.hid fun w' (hB : Below wr.heap.size wr w') => sameIntT_any (hy.below hB) (hy2.below hB) hL
      simp only [shv, decide_true] at C
      subst e e2
      have i1 : (0 : Int) ≤ (i : Int) := by omega
      have i2 : (i : Int) < (n2 : Int) := by omega
      have x0 := g0.1
      have x1 := g1.1
      have x2 := k0.1
      have x3 := k1.1
      have y0 := At.grow g0
      have y1 := At.grow g1
      have y2 := At.grow k0
      have y3 := At.grow k1
      clear hy hy2 g0 g1 k0 k1
      go_wp2_with fail
      refine wp_region_grow none [(true, 0), (true, 1), (true, 2), (true, 3), (true, 4), (true, 5), (true, 6), (true, 7), (false, 8), (true, 9)] (by kernel_rfl) (by kernel_rfl) ?_
      repeat (refine ord_pas (by rfl) (fun K hK => ?_); go_simp; refine hK _ _ (fun w' hw' => (by first | (go_simp; done) | (go_simp; intro hh; cases hh))) ?_; clear hK K)
      clear x0 x1 x2 x3 y0 y1 y2 y3
      (refine ord_call (by rfl) (fun K hK => ?_); go_simp; refine hK _ _ ?_; clear hK K)
      refine (C.out _ (Below.refl _ _).drew).mono ?_
      rintro e w1 ⟨rfl, hb1⟩
      refine ⟨_, rfl, (Grow.of_below hb1), ?_⟩
      (refine ord_norm (fun K hK => ?_); go_simp; refine hK _ ?_; clear hK K)
      repeat (refine ord_pas (by rfl) (fun K hK => ?_); go_simp; refine hK _ _ (fun w' hw' => (by first | (go_simp; done) | (go_simp; intro hh; cases hh))) ?_; clear hK K)
      refine ord_nil ?_
      have HN : Hid (Below w.heap.size w w1) := bt (bt hI.out (Below.refl _ _).drew) hb1
      clear hI hb1 C
      go_wp2
      go_roundw
      case rel => exact ⟨i + 1, HN, by omega, by go_num⟩
      case measure => simp [intOf]; omega
    · obtain rfl : i = n2 := by omega
      go_wp2
      go_ret
      exact ⟨rfl, hI.out⟩
set_option maxHeartbeats 1000000 in
theorem whole_1 {w : World} : Calls Try.prog 20 #[.int .i64 1] w (GI w 1 1) := by
  go_enter Try.func20, Try.ntmps20
  go_wp2
  refine bodyPost_ret (v := .agg #[.bool false, .slice (some ⟨w.heap.size + 1, 0, none⟩) 1 1]) (by simp [results, Try.results20, go_sem]) rfl ?_
  have e : dg W (Int.natAbs 1) = [1] := dg_small (by decide) (by rw [W_eq]; decide)
  have o := Own.lit (k := .u64) (t := 76) (B := w.heap.size) (w.alloc (.cells #[.bool false, .slice (some ⟨w.heap.size + 1, 0, none⟩) 1 1] 47)) [1] (by simp [maxLen]) (by simp)
  simp only [World.size_alloc, List.length_cons, List.length_nil, Nat.zero_add] at o
  exact ⟨_, 1, 1, false, rfl, (by show _ = _; rfl), by rw [e]; exact o, bt (belowA _ _) (belowA _ _), Nat.le_refl _⟩
set_option maxHeartbeats 1000000 in
theorem whole_2 {w : World} : Calls Try.prog 20 #[.int .i64 2] w (GI w 2 1) := by
  go_enter Try.func20, Try.ntmps20
  go_wp2
  refine bodyPost_ret (v := .agg #[.bool false, .slice (some ⟨w.heap.size + 1, 0, none⟩) 1 1]) (by simp [results, Try.results20, go_sem]) rfl ?_
  have e : dg W (Int.natAbs 2) = [2] := dg_small (by decide) (by rw [W_eq]; decide)
  have o := Own.lit (k := .u64) (t := 76) (B := w.heap.size) (w.alloc (.cells #[.bool false, .slice (some ⟨w.heap.size + 1, 0, none⟩) 1 1] 47)) [2] (by simp [maxLen]) (by simp)
  simp only [World.size_alloc, List.length_cons, List.length_nil, Nat.zero_add] at o
  exact ⟨_, 1, 1, false, rfl, (by show _ = _; rfl), by rw [e]; exact o, bt (belowA _ _) (belowA _ _), Nat.le_refl _⟩
set_option maxHeartbeats 1000000 in
theorem whole_0 {w : World} : Calls Try.prog 20 #[.int .i64 0] w (GI w 0 1) := by
  go_enter Try.func20, Try.ntmps20
  go_wp2
  refine bodyPost_ret (v := .agg #[.bool false, .slice none 0 0]) (by simp [results, Try.results20, go_sem]) rfl ?_
  exact ⟨none, 0, 0, false, rfl, (by show _ = _; rfl), by rw [show Int.natAbs 0 = 0 from rfl, dg_zero W_gt]; exact World.ownsRow_nil _ _ _ _, belowA _ _, Nat.zero_le _⟩
theorem whole_any {x : Nat} (hx : x ≤ 2) {w : World} : Calls Try.prog 20 #[.int .i64 (x : Int)] w (GI w (x : Int) 1) := by
  match x, hx with
  | 0, _ => exact whole_0
  | 1, _ => exact whole_1
  | 2, _ => exact whole_2
set_option maxHeartbeats 4000000 in
theorem poly_any {A : Option Addr} {n c : Nat} {xs : List Nat} {w : World} (h : Rd .i64 w A n c xs) (hx : ∀ x ∈ xs, x ≤ 2) (hn : n ≤ 1073741824) :
    Calls Try.prog 19 #[.slice A n c] w (GZP w 1 (xs.map fun (x : Nat) => (x : Int))) := by
  have H := Lib.hid h
  have HNQ : Hid (n = xs.length) := h.len.symm
  have HX := Lib.hid hx
  clear h hx
  go_enter Try.func19, Try.ntmps19
  go_wp2
  go_loopw [3, 9] (fun ov kv wr => ∃ (i : Nat) (A' : Option Addr) (c' : Nat), Hid (ZI w.heap.size w 1 ((xs.map fun (x : Nat) => (x : Int)).take i) A' i c' wr) ∧ i ≤ n ∧ ov = .slice A' i c' ∧ kv = .int .i64 (i : Int)) (fun _ kv _ => n - (intOf kv).toNat)
  case atStart => exact ⟨0, _, _, ⟨⟨[], by have := RowK.lit (k := 2) (T := 47) (B := w.heap.size) w 0 [] rfl rfl (by omega) (Nat.le_refl _); simpa using this, by simpa using All2.nil⟩, belowA _ _⟩, Nat.zero_le _, rfl, rfl⟩
  case round =>
    obtain ⟨i, A', c', hI, hi, rfl, rfl⟩ := hrel
    by_cases hlt : i < n
    · have hix : i < xs.length := by have := HNQ.out; omega
      have en : nth xs i = xs[i] := by simp [nth, hix]
      have C := Lib.hid fun (w' : World) => whole_any (x := nth xs i) (by rw [en]; exact HX.out _ (List.getElem_mem hix)) (w := w')
      have HQ : Hid ((xs.map fun (x : Nat) => (x : Int))[i]? = some ((nth xs i : Nat) : Int)) := by show _ = _; rw [List.getElem?_map, List.getElem?_eq_getElem hix, en]; rfl
      obtain ⟨b, off, rfl, hb, hc⟩ := (H.out.below hI.out.2).at (i := i) (by omega)
      have i1 : (0 : Int) ≤ (i : Int) := by omega
      have i2 : (i : Int) < (n : Int) := by omega
      clear en
      go_wp2_with fail
      refine (C.out _).mono ?_
      rintro e w1 ⟨A3, n3, c3, s3, rfl, hs3, o3, hb1, l3⟩
      have HI1 := Lib.hid (hI.out.below hb1)
      have HC3 : Hid (CanZ w.heap.size 1 w1 (s3, (A3, n3, c3)) ((nth xs i : Nat) : Int)) := ⟨hs3.out, o3.mono hI.out.2.size, l3⟩
      clear hb1 o3 hc hI C hs3
      go_wp2_with (at_builtin; (refine wpList_appZ1 (w0 := w) (s3, (A3, n3, c3)) rfl (.tmp 13) (.tmp 16) rfl rfl rfl (HI1.out.below (belowA _ _)) (RowK.lit (k := 2) (T := 47) (B := 0) w1 1 [.bool s3, .slice A3 n3 c3] (by simp) rfl (by omega) (Nat.zero_le _)).rd (HC3.out.below (belowA _ _)) (by omega) (by have := HI1.out.2.size; simp; omega) (Nat.le_refl _) ?_); intro A4 c4 w4 hz4; have HN : Hid (ZI w.heap.size w 1 ((xs.map fun (x : Nat) => (x : Int)).take (i + 1)) A4 (i + 1) c4 w4) := (by rw [take_snoc HQ.out]; exact hz4); clear hz4)
      go_roundw
      case rel => exact ⟨i + 1, A4, c4, HN, by omega, rfl, by go_num⟩
      case measure => simp [intOf]; omega
    · obtain rfl : i = n := by omega
      have HF := hI
      clear hI
      go_wp2
      go_ret
      have h1 := HF.out
      rw [List.take_of_length_le (by rw [List.length_map]; have := HNQ.out; omega)] at h1
      exact ⟨A', i, c', rfl, h1.poly (by rw [List.length_map]; exact HNQ.out), h1.2⟩
end Go.Proofs.Ytphofjinncbaaaa
namespace Go.Proofs.Ytphofjinncbaaaa
set_option linter.unusedVariables false
set_option linter.unusedSimpArgs false

theorem zn_nil (i : Nat) : zn [] i = 0 := by simp [zn]
theorem zn_c0 (z : Int) (zs : List Int) : zn (z :: zs) 0 = z := by simp [zn]
theorem zn_cs (z : Int) (zs : List Int) (i : Nat) : zn (z :: zs) (i + 1) = zn zs i := by simp [zn]
theorem zn_out {zs : List Int} {i : Nat} (h : zs.length ≤ i) : zn zs i = 0 := by unfold zn; rw [List.getElem?_eq_none h]; rfl
theorem tlen_out {z : Nat → Bool} : ∀ n i, tlen z n ≤ i → i < n → z i = true
  | 0, i, _, h => by omega
  | n + 1, i, h, hi => by
    unfold tlen at h
    split at h
    · rename_i hz
      by_cases e : i = n
      · subst e; exact hz
      · exact tlen_out n i h (by omega)
    · omega
theorem tlen_last {z : Nat → Bool} {k : Nat} : ∀ n, tlen z n = k + 1 → z k = false
  | 0, h => by simp [tlen] at h
  | n + 1, h => by
    unfold tlen at h
    split at h
    · exact tlen_last n h
    · rename_i hz
      have : n = k := by omega
      subst this
      simpa using hz
theorem zn_take {zs : List Int} {n i : Nat} : zn (zs.take n) i = if i < n then zn zs i else 0 := by
  unfold zn
  rw [List.getElem?_take]
  split <;> rfl
theorem zn_ztr (zs : List Int) (i : Nat) : zn (ztr zs) i = zn zs i := by
  unfold ztr
  rw [zn_take]
  split
  · rfl
  · rename_i h
    by_cases hi : i < zs.length
    · have := tlen_out (z := zz0 zs) zs.length i (by unfold ztl at h; omega) hi
      unfold zz0 at this
      exact (of_decide_eq_true this).symm
    · exact (zn_out (by omega)).symm
theorem ztl_last {zs : List Int} {k : Nat} (h : ztl zs = k + 1) : zn zs k ≠ 0 := by
  have := tlen_last (z := zz0 zs) zs.length h
  unfold zz0 at this
  exact of_decide_eq_false this
theorem ztl_out {zs : List Int} {i : Nat} (h : ztl zs ≤ i) : zn zs i = 0 := by
  rw [← zn_ztr]; exact zn_out (by rw [ztr_len]; exact h)
theorem ztl_ext_le {p q : List Int} (h : ∀ i, zn p i = zn q i) : ztl q ≤ ztl p := by
  by_cases hlt : ztl q ≤ ztl p
  · exact hlt
  · obtain ⟨k, hk⟩ : ∃ k, ztl q = k + 1 := ⟨ztl q - 1, by omega⟩
    have h1 := ztl_last hk
    rw [← h k, ztl_out (by omega)] at h1
    exact absurd rfl h1
theorem ztr_ext {p q : List Int} (h : ∀ i, zn p i = zn q i) : ztr p = ztr q := by
  have hl : ztl p = ztl q := Nat.le_antisymm (ztl_ext_le fun i => (h i).symm) (ztl_ext_le h)
  refine List.ext_getElem (by rw [ztr_len, ztr_len, hl]) fun i h1 h2 => ?_
  rw [← zn_of (List.getElem?_eq_getElem h1), ← zn_of (List.getElem?_eq_getElem h2), zn_ztr, zn_ztr, h i]
theorem ztr_idem (zs : List Int) : ztr (ztr zs) = ztr zs := ztr_ext (zn_ztr zs)
theorem ev_zero {p : List Int} (x : Int) : (∀ i, zn p i = 0) → ev p x = 0 := by
  induction p with
  | nil => intro _; rfl
  | cons z p ih =>
    intro h
    show z + x * ev p x = 0
    rw [ih (fun i => by rw [← zn_cs z]; exact h (i + 1)), ← zn_c0 z p, h 0]
    simp
theorem ev_ext {p : List Int} (x : Int) : ∀ {q : List Int}, (∀ i, zn p i = zn q i) → ev p x = ev q x := by
  induction p with
  | nil => intro q h; exact (ev_zero x fun i => by rw [← h i, zn_nil]).symm
  | cons z p ih =>
    intro q h
    cases q with
    | nil => exact ev_zero x fun i => by rw [h i, zn_nil]
    | cons y q =>
      show z + x * ev p x = y + x * ev q x
      rw [ih (q := q) fun i => by rw [← zn_cs z, ← zn_cs y]; exact h (i + 1)]
      have := h 0
      rw [zn_c0, zn_c0] at this
      rw [this]
theorem ev_ztr (zs : List Int) (x : Int) : ev (ztr zs) x = ev zs x := ev_ext x (zn_ztr zs)
/-- equal values make equal coefficients -/
theorem small_div {z y : Int} (h : ∃ k, z = y * k) (hy : z.natAbs < y.natAbs) : z = 0 := by
  obtain ⟨k, rfl⟩ := h
  by_cases hk : k = 0
  · subst hk; simp
  · exfalso
    rw [Int.natAbs_mul] at hy
    have : 1 ≤ k.natAbs := by omega
    have := Nat.mul_le_mul_left y.natAbs this
    omega
theorem ev_inj0 {p : List Int} : (∀ y : Nat, 1 ≤ y → ev p (y : Int) = 0) → ∀ i, zn p i = 0 := by
  induction p with
  | nil => intro _ i; exact zn_nil i
  | cons z p ih =>
    intro h
    have hz : z = 0 := by
      have h1 := h (z.natAbs + 1) (by omega)
      refine small_div (y := ((z.natAbs + 1 : Nat) : Int)) ⟨-ev p ((z.natAbs + 1 : Nat) : Int), ?_⟩ (by omega)
      have h2 : z + ((z.natAbs + 1 : Nat) : Int) * ev p ((z.natAbs + 1 : Nat) : Int) = 0 := h1
      rw [Int.mul_neg]
      omega
    have hp := ih fun y hy => by
      have h1 : z + (y : Int) * ev p (y : Int) = 0 := h y hy
      rw [hz, Int.zero_add] at h1
      rcases Int.mul_eq_zero.1 h1 with e | e
      · omega
      · exact e
    intro i
    cases i with
    | zero => rw [zn_c0]; exact hz
    | succ i => rw [zn_cs]; exact hp i
def zsubl (a b : List Int) : List Int := (List.range (max a.length b.length)).map fun i => zn a i - zn b i
theorem zn_range {n : Nat} {f : Nat → Int} {i : Nat} : zn ((List.range n).map f) i = if i < n then f i else 0 := by
  unfold zn
  rw [List.getElem?_map]
  split
  · rename_i h; rw [List.getElem?_range h]; rfl
  · rename_i h; rw [List.getElem?_eq_none (by simp; omega)]; rfl
theorem zn_zsubl (a b : List Int) (i : Nat) : zn (zsubl a b) i = zn a i - zn b i := by
  unfold zsubl
  rw [zn_range]
  split
  · rfl
  · rw [zn_out (zs := a) (by omega), zn_out (zs := b) (by omega)]; rfl
theorem zn_zaddl (a b : List Int) (i : Nat) : zn (zaddl a b) i = zn a i + zn b i := by
  unfold zaddl
  rw [zn_range]
  split
  · rfl
  · rw [zn_out (zs := a) (by omega), zn_out (zs := b) (by omega)]; rfl
def padd : List Int → List Int → List Int
  | [], b => b
  | a, [] => a
  | x :: a, y :: b => (x + y) :: padd a b
theorem zn_padd : ∀ (a b : List Int) (i : Nat), zn (padd a b) i = zn a i + zn b i
  | [], b, i => by simp [padd, zn_nil]
  | x :: a, [], i => by simp [padd, zn_nil]
  | x :: a, y :: b, 0 => by simp [padd, zn_c0]
  | x :: a, y :: b, i + 1 => by unfold padd; rw [zn_cs, zn_cs, zn_cs]; exact zn_padd a b i
theorem ev_padd (t : Int) : ∀ (a b : List Int), ev (padd a b) t = ev a t + ev b t
  | [], b => by simp [padd, ev]
  | x :: a, [] => by simp [padd, ev]
  | x :: a, y :: b => by
    show x + y + t * ev (padd a b) t = x + t * ev a t + (y + t * ev b t)
    rw [ev_padd t a b]
    grind
theorem ev_add {p a b : List Int} (t : Int) (h : ∀ i, zn p i = zn a i + zn b i) : ev p t = ev a t + ev b t := by
  rw [← ev_padd]
  exact ev_ext t fun i => by rw [h, zn_padd]
theorem ev_zaddl (a b : List Int) (t : Int) : ev (zaddl a b) t = ev a t + ev b t := ev_add t (zn_zaddl a b)
theorem ev_inj {p q : List Int} (h : ∀ y : Nat, 1 ≤ y → ev p (y : Int) = ev q (y : Int)) : ∀ i, zn p i = zn q i := by
  have hd := ev_inj0 (p := zsubl p q) fun y hy => by
    have e : ev p (y : Int) = ev (zsubl p q) (y : Int) + ev q (y : Int) := ev_add _ fun i => by rw [zn_zsubl]; omega
    have := h y hy
    omega
  intro i
  have := hd i
  rw [zn_zsubl] at this
  omega
theorem ev_take_succ {b : List Int} {j : Nat} (t : Int) (h : j < b.length) : ev (b.take (j + 1)) t = ev (b.take j) t + zn b j * t ^ j := by
  induction b generalizing j with
  | nil => simp at h
  | cons z b ih =>
    cases j with
    | zero => simp [ev, zn_c0]
    | succ j =>
      show z + t * ev (b.take (j + 1)) t = z + t * ev (b.take j) t + _
      rw [ih (by simpa using h), zn_cs]
      grind
theorem ev_madd {out : List Int} {k : Nat} (v t : Int) (h : k < out.length) : ev (madd out k v) t = ev out t + v * t ^ k := by
  unfold madd
  induction out generalizing k with
  | nil => simp at h
  | cons z out ih =>
    cases k with
    | zero =>
      rw [zn_c0]
      show z + v + t * ev out t = z + t * ev out t + v * t ^ 0
      grind
    | succ k =>
      rw [zn_cs]
      show z + t * ev (out.set k (zn out k + v)) t = z + t * ev out t + _
      rw [ih (by simpa using h)]
      grind
theorem ev_mrow {out b : List Int} {i : Nat} (x t : Int) : ∀ j, j ≤ b.length → i + b.length ≤ out.length → ev (mrow out x b i j) t = ev out t + x * t ^ i * ev (b.take j) t
  | 0, _, _ => by simp [mrow, ev]
  | j + 1, h, hl => by
    show ev (madd (mrow out x b i j) (i + j) (x * zn b j)) t = _
    rw [ev_madd _ _ (by rw [mrow_len]; omega), ev_mrow x t j (by omega) hl, ev_take_succ t (by omega), Int.pow_add]
    grind
theorem ev_zeros (n : Nat) (t : Int) : ev (List.replicate n 0) t = 0 := ev_zero t fun i => by
  unfold zn
  rw [List.getElem?_replicate]
  split <;> rfl
theorem ev_mall {a b : List Int} {N : Nat} (t : Int) (hN : N = a.length + b.length - 1) : ∀ i, i ≤ a.length → ev (mall a b N i) t = ev (a.take i) t * ev b t
  | 0, _ => by show ev (List.replicate N 0) t = _; rw [ev_zeros]; simp [ev]
  | i + 1, h => by
    show ev (mrow (mall a b N i) (zn a i) b i b.length) t = _
    rw [ev_mrow _ _ _ (Nat.le_refl _) (by rw [mall_len]; omega), List.take_length, ev_mall t hN i (by omega), ev_take_succ t (by omega)]
    grind
theorem ev_zmull (a b : List Int) (t : Int) : ev (zmull a b) t = ev a t * ev b t := by
  unfold zmull
  rw [ev_mall t rfl _ (Nat.le_refl _), List.take_length]
theorem ev_cst (zs qs o : List Int) (x : Nat) (t : Int) : ev (cst zs qs o x) t = ev o t * ev qs t + zn zs x := by
  unfold cst
  rw [ev_ztr, ev_zaddl, ev_ztr, ev_zmull, ev_ztr, ev_ztr]
  show _ + (zn zs x + t * 0) = _
  rw [Int.mul_zero, Int.add_zero]
theorem ev_cpl (zs qs : List Int) (t : Int) : ∀ k, k ≤ zs.length → ev (cpl zs qs (backz zs.length k)) t = ev (zs.drop (zs.length - k)) (ev qs t)
  | 0, _ => by
    show ev [] t = _
    rw [Nat.sub_zero, List.drop_length]
    rfl
  | k + 1, h => by
    rw [backz_succ, cpl_snoc, ev_cst, ev_cpl zs qs t k (by omega), ev_drop (k := zs.length - (k + 1)) _ (by omega), show zs.length - (k + 1) + 1 = zs.length - k by omega, show zs.length - 1 - k = zs.length - (k + 1) by omega]
    grind
theorem ev_comp (zs qs : List Int) (t : Int) : ev (ztr (cpl zs qs (backz zs.length zs.length))) t = ev zs (ev qs t) := by
  rw [ev_ztr, ev_cpl zs qs t _ (Nat.le_refl _), Nat.sub_self, List.drop_zero]
theorem ev_shl1 (zs : List Int) (a t : Int) : ev (shl1 zs a) t = ev zs (t + a) := by
  unfold shl1
  rw [ev_comp, ev_ztr]
  show ev zs (a + t * (1 + t * 0)) = _
  congr 1
  grind
/-- there and back -/
theorem shl1_back (zs : List Int) (a : Int) : shl1 (shl1 zs a) (-a) = ztr zs := by
  have h : ∀ i, zn (shl1 (shl1 zs a) (-a)) i = zn zs i := ev_inj fun y _ => by
    rw [ev_shl1, ev_shl1]
    congr 1
    omega
  rw [← ztr_ext h]
  unfold shl1
  exact (ztr_idem _).symm
def scm : List Int → Int → Int → List Int
  | [], _, _ => []
  | z :: zs, a, c => z * c :: scm zs a (a * c)
theorem zn_scm (a : Int) : ∀ (zs : List Int) (c : Int) (j : Nat), zn (scm zs a c) j = zn zs j * a ^ j * c
  | [], c, j => by simp [scm, zn_nil]
  | z :: zs, c, 0 => by simp [scm, zn_c0]
  | z :: zs, c, j + 1 => by
    unfold scm
    rw [zn_cs, zn_cs, zn_scm a zs]
    grind
theorem ev_scm (a x : Int) : ∀ (zs : List Int) (c : Int), ev (scm zs a c) x = c * ev zs (a * x)
  | [], c => by simp [scm, ev]
  | z :: zs, c => by
    show z * c + x * ev (scm zs a (a * c)) x = c * (z + a * x * ev zs (a * x))
    rw [ev_scm a x zs]
    grind
theorem ev_scl (zs : List Int) (a x : Int) : ev (ztr (scl zs a)) x = ev zs (a * x) := by
  rw [ev_ztr, ev_ext (q := scm zs a 1) x (fun i => ?_), ev_scm]
  · simp
  · rw [zn_scm]
    unfold scl
    rw [zn_range]
    split
    · simp
    · rw [zn_out (zs := zs) (by omega)]; simp
/-- turned twice -/
theorem zn_revl (zs : List Int) (m j : Nat) : zn (revl zs m) j = if j ≤ m then zn zs (m - j) else 0 := by
  unfold revl
  rw [zn_range]
  by_cases h : j ≤ m
  · rw [if_pos (by omega), if_pos h]
  · rw [if_neg (by omega), if_neg h]
theorem revl_back {zs : List Int} {m : Nat} (h : zs.length ≤ m + 1) : ztr (revl (ztr (revl zs m)) m) = ztr zs := by
  refine ztr_ext fun i => ?_
  rw [zn_revl]
  split
  · rename_i hi
    rw [zn_ztr, zn_revl, if_pos (by omega), show m - (m - i) = i by omega]
  · exact (zn_out (by omega)).symm
theorem revl_reverse {zs : List Int} {m : Nat} (h : zs.length = m + 1) : revl zs m = zs.reverse := by
  refine List.ext_getElem (by simp [revl, h]) fun i h1 h2 => ?_
  have hi : i < m + 1 := by simpa [revl] using h1
  rw [List.getElem_reverse]
  simp only [revl, List.getElem_map, List.getElem_range]
  rw [zn_of (List.getElem?_eq_getElem (by omega))]
  congr 1
  omega
theorem hom_snoc (z a b : Int) : ∀ zs : List Int, hom (zs ++ [z]) a b = hom zs a b * b + z * a ^ zs.length
  | [] => by simp [hom]
  | y :: zs => by
    show hom (zs ++ [z]) a b * a + y * b ^ (zs ++ [z]).length = (hom zs a b * a + y * b ^ zs.length) * b + z * a ^ (zs.length + 1)
    rw [hom_snoc z a b zs, List.length_append]
    simp only [List.length_cons, List.length_nil, Nat.zero_add]
    grind
theorem hom_reverse (a b : Int) : ∀ zs : List Int, hom zs.reverse b a = hom zs a b
  | [] => rfl
  | z :: zs => by
    rw [List.reverse_cons, hom_snoc, hom_reverse a b zs, List.length_reverse]
    rfl
theorem hom_turn {zs : List Int} {m : Nat} (h : zs.length = m + 1) (ht : ztl (revl zs m) = m + 1) (a x : Int) : hom (ztr (revl zs m)) x a = hom zs a x := by
  have : ztr (revl zs m) = revl zs m := by
    unfold ztr
    rw [ht]
    exact List.take_of_length_le (by simp [revl])
  rw [this, revl_reverse h, hom_reverse]
theorem ztr_line (a : Int) : ztr [a, 1] = [a, 1] := rfl
theorem shl1_x (a : Int) : shl1 [0, 1] a = [a, 1] := by
  have h : ∀ i, zn (shl1 [0, 1] a) i = zn [a, 1] i := ev_inj fun y _ => by
    rw [ev_shl1]
    show (0 : Int) + (y + a) * (1 + (y + a) * 0) = a + y * (1 + y * 0)
    grind
  have e := ztr_ext h
  rw [ztr_line] at e
  rw [← e]
  unfold shl1
  exact (ztr_idem _).symm
theorem shl1_1 : shl1 (ztr [0, 0, 1]) 1 = [1, 2, 1] := by rfl
end Go.Proofs.Ytphofjinncbaaaa
namespace Go.Proofs.Ytphofjinncbaaaa
set_option linter.unusedVariables false
set_option linter.unusedSimpArgs false

/-- the sum of the sizes -/
def S1 : List Int → Nat
  | [] => 0
  | z :: zs => z.natAbs + S1 zs
theorem S1_mem {z : Int} : ∀ {zs : List Int}, z ∈ zs → z.natAbs ≤ S1 zs
  | y :: zs, h => by
    rcases List.mem_cons.1 h with rfl | h
    · exact Nat.le_add_right _ _
    · exact Nat.le_trans (S1_mem h) (Nat.le_add_left _ _)
theorem S1_app : ∀ (a b : List Int), S1 (a ++ b) = S1 a + S1 b
  | [], b => by simp [S1]
  | z :: a, b => by
    show z.natAbs + S1 (a ++ b) = z.natAbs + S1 a + S1 b
    rw [S1_app a b]; omega
theorem S1_zn (zs : List Int) (i : Nat) : (zn zs i).natAbs ≤ S1 zs := by
  by_cases h : i < zs.length
  · rw [zn_of (List.getElem?_eq_getElem h)]; exact S1_mem (List.getElem_mem h)
  · rw [zn_out (by omega)]; exact Nat.zero_le _
theorem S1_take (zs : List Int) (n : Nat) : S1 (zs.take n) ≤ S1 zs := by
  have h := S1_app (zs.take n) (zs.drop n)
  rw [List.take_append_drop] at h
  omega
theorem S1_drop (zs : List Int) (n : Nat) : S1 (zs.drop n) ≤ S1 zs := by
  have h := S1_app (zs.take n) (zs.drop n)
  rw [List.take_append_drop] at h
  omega
theorem S1_ztr (zs : List Int) : S1 (ztr zs) ≤ S1 zs := S1_take zs _
theorem S1_take_succ (zs : List Int) (n : Nat) : S1 (zs.take (n + 1)) = S1 (zs.take n) + (zn zs n).natAbs := by
  by_cases h : n < zs.length
  · rw [List.take_succ_eq_append_getElem h, S1_app, zn_of (List.getElem?_eq_getElem h)]
    simp [S1]
  · rw [List.take_of_length_le (by omega), List.take_of_length_le (by omega), zn_out (by omega)]
    simp
theorem S1_madd (v : Int) : ∀ (out : List Int) (k : Nat), S1 (madd out k v) ≤ S1 out + v.natAbs
  | [], k => by simp [madd, S1]
  | z :: out, 0 => by
    unfold madd
    rw [zn_c0]
    show (z + v).natAbs + S1 out ≤ z.natAbs + S1 out + v.natAbs
    have := Int.natAbs_add_le z v
    omega
  | z :: out, k + 1 => by
    have h := S1_madd v out k
    unfold madd at h ⊢
    rw [zn_cs]
    show z.natAbs + S1 (out.set k (zn out k + v)) ≤ z.natAbs + S1 out + v.natAbs
    omega
theorem S1_mrow (out : List Int) (x : Int) (b : List Int) (i : Nat) : ∀ j, S1 (mrow out x b i j) ≤ S1 out + x.natAbs * S1 (b.take j)
  | 0 => Nat.le_add_right _ _
  | j + 1 => by
    refine Nat.le_trans (S1_madd _ _ _) ?_
    have h := S1_mrow out x b i j
    rw [S1_take_succ, Int.natAbs_mul, Nat.mul_add]
    omega
theorem S1_mrow' (out : List Int) (x : Int) (b : List Int) (i j : Nat) : S1 (mrow out x b i j) ≤ S1 out + x.natAbs * S1 b :=
  Nat.le_trans (S1_mrow out x b i j) (Nat.add_le_add_left (Nat.mul_le_mul_left _ (S1_take b j)) _)
theorem S1_zeros : ∀ n, S1 (List.replicate n 0) = 0
  | 0 => rfl
  | n + 1 => by rw [List.replicate_succ]; show 0 + S1 _ = 0; rw [S1_zeros n]
theorem S1_mall (a b : List Int) (N : Nat) : ∀ i, S1 (mall a b N i) ≤ S1 (a.take i) * S1 b
  | 0 => by show S1 (List.replicate N 0) ≤ _; rw [S1_zeros]; exact Nat.zero_le _
  | i + 1 => by
    refine Nat.le_trans (S1_mrow' _ _ _ _ _) ?_
    have h := S1_mall a b N i
    rw [S1_take_succ, Nat.add_mul]
    omega
theorem S1_part (a b : List Int) (N i j : Nat) : S1 (mrow (mall a b N i) (zn a i) b i j) ≤ S1 a * S1 b := by
  refine Nat.le_trans (S1_mrow' _ _ _ _ _) ?_
  have h := S1_mall a b N i
  have h2 := Nat.mul_le_mul_right (S1 b) (S1_take a (i + 1))
  rw [S1_take_succ, Nat.add_mul] at h2
  omega
theorem S1_zmull (a b : List Int) : S1 (zmull a b) ≤ S1 a * S1 b := by
  have h := S1_mall a b (a.length + b.length - 1) a.length
  rwa [List.take_length] at h
theorem S1_range (f : Nat → Int) (n : Nat) : S1 ((List.range (n + 1)).map f) = S1 ((List.range n).map f) + (f n).natAbs := by
  rw [List.range_succ, List.map_append, S1_app]
  simp [S1]
theorem S1_ranget (a : List Int) : ∀ n, S1 ((List.range n).map (zn a)) = S1 (a.take n)
  | 0 => rfl
  | n + 1 => by rw [S1_range, S1_ranget a n, S1_take_succ]
theorem S1_range2 (a b : List Int) : ∀ n, S1 ((List.range n).map fun i => zn a i + zn b i) ≤ S1 (a.take n) + S1 (b.take n)
  | 0 => Nat.zero_le _
  | n + 1 => by
    have h := S1_range2 a b n
    rw [S1_range, S1_take_succ, S1_take_succ]
    have := Int.natAbs_add_le (zn a n) (zn b n)
    omega
theorem S1_zaddl (a b : List Int) : S1 (zaddl a b) ≤ S1 a + S1 b := by
  have h := S1_range2 a b (max a.length b.length)
  have h1 := S1_take a (max a.length b.length)
  have h2 := S1_take b (max a.length b.length)
  unfold zaddl
  omega
theorem S1_cst (zs qs o : List Int) (x : Nat) : S1 (cst zs qs o x) ≤ S1 o * S1 qs + (zn zs x).natAbs := by
  unfold cst
  refine Nat.le_trans (S1_ztr _) (Nat.le_trans (S1_zaddl _ _) ?_)
  have h1 := Nat.le_trans (S1_ztr (zmull (ztr o) (ztr qs))) (S1_zmull _ _)
  have h2 := Nat.mul_le_mul (S1_ztr o) (S1_ztr qs)
  simp only [S1]
  omega
theorem S1_cpl {zs qs : List Int} {m Q : Nat} (hm : ∀ x, (zn zs x).natAbs ≤ m) (hQ : S1 qs ≤ Q) (hQ1 : 1 ≤ Q) (n : Nat) : ∀ pre : List Nat, pre.length = n → S1 (cpl zs qs pre) ≤ n * m * Q ^ n := by
  induction n with
  | zero =>
    intro pre h
    rw [List.length_eq_zero_iff.1 h]
    exact Nat.zero_le _
  | succ n ih =>
    intro pre h
    rcases List.eq_nil_or_concat pre with rfl | ⟨p, x, rfl⟩
    · simp at h
    · rw [List.concat_eq_append] at h ⊢
      rw [cpl_snoc]
      refine Nat.le_trans (S1_cst _ _ _ _) ?_
      have h1 := ih p (by simpa using h)
      have h2 : S1 (cpl zs qs p) * S1 qs ≤ n * m * Q ^ n * Q := Nat.mul_le_mul h1 hQ
      have h3 : m ≤ m * Q ^ (n + 1) := Nat.le_mul_of_pos_right _ (Nat.pow_pos hQ1)
      have h4 := hm x
      have e : (n + 1) * m * Q ^ (n + 1) = n * m * Q ^ n * Q + m * Q ^ (n + 1) := by rw [Nat.add_mul, Nat.add_mul, Nat.one_mul, Nat.pow_succ, Nat.mul_assoc (n * m)]
      rw [e]
      omega
theorem zaddl_len (a b : List Int) : (zaddl a b).length = max a.length b.length := by simp [zaddl]
theorem zmull_len (a b : List Int) : (zmull a b).length = a.length + b.length - 1 := mall_len _ _ _ _
theorem ztr_le (a : List Int) : (ztr a).length ≤ a.length := by rw [ztr_len]; exact ztl_le a
theorem cst_len (zs qs o : List Int) (x : Nat) : (cst zs qs o x).length ≤ o.length + qs.length + 1 := by
  unfold cst
  refine Nat.le_trans (ztr_le _) ?_
  rw [zaddl_len]
  have h1 := ztr_le (zmull (ztr o) (ztr qs))
  rw [zmull_len] at h1
  have h2 := ztr_le o
  have h3 := ztr_le qs
  simp only [List.length_cons, List.length_nil]
  omega
theorem cpl_len (zs qs : List Int) (n : Nat) : ∀ pre : List Nat, pre.length = n → (cpl zs qs pre).length ≤ n * (qs.length + 1) := by
  induction n with
  | zero =>
    intro pre h
    rw [List.length_eq_zero_iff.1 h]
    exact Nat.zero_le _
  | succ n ih =>
    intro pre h
    rcases List.eq_nil_or_concat pre with rfl | ⟨p, x, rfl⟩
    · simp at h
    · rw [List.concat_eq_append] at h ⊢
      rw [cpl_snoc]
      have h1 := ih p (by simpa using h)
      have h2 := cst_len zs qs (cpl zs qs p) x
      rw [Nat.add_mul]
      omega
theorem S1_le {m : Nat} : ∀ {zs : List Int}, (∀ z ∈ zs, z.natAbs ≤ m) → S1 zs ≤ zs.length * m
  | [], _ => Nat.zero_le _
  | z :: zs, h => by
    have h1 := S1_le (m := m) (zs := zs) fun y hy => h y (List.mem_cons_of_mem _ hy)
    have h2 := h z List.mem_cons_self
    show z.natAbs + S1 zs ≤ (zs.length + 1) * m
    rw [Nat.add_mul]
    omega
theorem W_big {n : Nat} (h : n ≤ 1000) : n < W := by rw [W_eq]; omega
theorem pow_mono {a b : Nat} (h : a ≤ b) : W ^ a ≤ W ^ b := Nat.pow_le_pow_right W_pos h
/-- n * W^T * (W^U)^n with few factors -/
theorem fits3 {n N T U K : Nat} (hn : n ≤ N) (hN : N ≤ 1000) (hK : 1 + T + N * U ≤ K) : n * W ^ T * (W ^ U) ^ n < W ^ K := by
  have h1 : n * W ^ T < W * W ^ T := Nat.mul_lt_mul_of_pos_right (W_big (by omega)) (Nat.pow_pos W_pos)
  have h2 : (W ^ U) ^ n ≤ W ^ (N * U) := by rw [← Nat.pow_mul, Nat.mul_comm]; exact pow_mono (Nat.mul_le_mul_right _ hn)
  have h3 : n * W ^ T * (W ^ U) ^ n < W * W ^ T * W ^ (N * U) := Nat.lt_of_le_of_lt (Nat.mul_le_mul_left _ h2) (Nat.mul_lt_mul_of_pos_right h1 (Nat.pow_pos W_pos))
  refine Nat.lt_of_lt_of_le h3 ?_
  rw [show W * W ^ T * W ^ (N * U) = W ^ (1 + T + N * U) by rw [Nat.pow_add, Nat.pow_add, Nat.pow_one]]
  exact pow_mono hK
/-- what compose_any asks -/
theorem comp_fits {zs qs : List Int} {T U K : Nat} (hl : zs.length ≤ 40) (hq : qs.length ≤ 40) (hz : ∀ z ∈ zs, z.natAbs ≤ W ^ T) (hQ : S1 qs ≤ W ^ U) (hK : 1 + T + 40 * U ≤ K) :
    (∀ pre : List Nat, pre.length ≤ zs.length → (∀ z ∈ cpl zs qs pre, z.natAbs < W ^ K) ∧ (cpl zs qs pre).length ≤ 1048576 ∧ (ztr (zmull (ztr (cpl zs qs pre)) (ztr qs))).length ≤ 1048576) ∧
    (∀ pre : List Nat, pre.length < zs.length → ∀ i j, i < (ztr (cpl zs qs pre)).length → j ≤ (ztr qs).length → ∀ z ∈ mrow (mall (ztr (cpl zs qs pre)) (ztr qs) ((ztr (cpl zs qs pre)).length + (ztr qs).length - 1) i) (zn (ztr (cpl zs qs pre)) i) (ztr qs) i j, z.natAbs < W ^ K) := by
  have hm : ∀ x, (zn zs x).natAbs ≤ W ^ T := fun x => by
    by_cases h : x < zs.length
    · rw [zn_of (List.getElem?_eq_getElem h)]; exact hz _ (List.getElem_mem h)
    · rw [zn_out (by omega)]; exact Nat.zero_le _
  have hQ1 : 1 ≤ W ^ U := Nat.pow_pos W_pos
  constructor
  · intro pre hp
    have h1 := S1_cpl hm hQ hQ1 pre.length pre rfl
    have h2 := fits3 (n := pre.length) (N := 40) (T := T) (U := U) (K := K) (by omega) (by omega) hK
    have h3 := cpl_len zs qs pre.length pre rfl
    have h4 : pre.length * (qs.length + 1) ≤ 40 * 41 := Nat.mul_le_mul (by omega) (by omega)
    refine ⟨fun z hz => Nat.lt_of_le_of_lt (Nat.le_trans (S1_mem hz) h1) h2, by omega, ?_⟩
    have h5 := ztr_le (zmull (ztr (cpl zs qs pre)) (ztr qs))
    rw [zmull_len] at h5
    have h6 := ztr_le (cpl zs qs pre)
    have h7 := ztr_le qs
    omega
  · intro pre hp i j _ _ z hz
    have h1 := S1_cpl hm hQ hQ1 pre.length pre rfl
    have h2 := fits3 (n := pre.length + 1) (N := 40) (T := T) (U := U) (K := K) (by omega) (by omega) hK
    refine Nat.lt_of_le_of_lt (Nat.le_trans (S1_mem hz) (Nat.le_trans (S1_part _ _ _ _ _) ?_)) h2
    refine Nat.le_trans (Nat.mul_le_mul (Nat.le_trans (S1_ztr _) h1) (Nat.le_trans (S1_ztr _) hQ)) ?_
    rw [Nat.mul_assoc, ← Nat.pow_succ]
    exact Nat.mul_le_mul_right _ (Nat.mul_le_mul_right _ (Nat.le_succ _))
theorem ev_size (x : Int) {X : Nat} (hx : x.natAbs ≤ X) (hX : 1 ≤ X) : ∀ zs : List Int, (ev zs x).natAbs ≤ S1 zs * X ^ zs.length
  | [] => Nat.zero_le _
  | z :: zs => by
    show (z + x * ev zs x).natAbs ≤ (z.natAbs + S1 zs) * X ^ (zs.length + 1)
    have h1 := ev_size x hx hX zs
    have h2 := Int.natAbs_add_le z (x * ev zs x)
    rw [Int.natAbs_mul] at h2
    have h3 : x.natAbs * (ev zs x).natAbs ≤ X * (S1 zs * X ^ zs.length) := Nat.mul_le_mul hx h1
    have h4 : z.natAbs ≤ z.natAbs * X ^ (zs.length + 1) := Nat.le_mul_of_pos_right _ (Nat.pow_pos hX)
    rw [Nat.add_mul, Nat.pow_succ] at *
    have e : X * (S1 zs * X ^ zs.length) = S1 zs * (X ^ zs.length * X) := by rw [← Nat.mul_assoc, Nat.mul_comm X, Nat.mul_assoc, Nat.mul_comm X]
    omega
theorem hom_size (a b : Int) {X : Nat} (ha : a.natAbs ≤ X) (hb : b.natAbs ≤ X) (hX : 1 ≤ X) : ∀ zs : List Int, (hom zs a b).natAbs ≤ S1 zs * X ^ zs.length
  | [] => Nat.zero_le _
  | z :: zs => by
    show (hom zs a b * a + z * b ^ zs.length).natAbs ≤ (z.natAbs + S1 zs) * X ^ (zs.length + 1)
    have h1 := hom_size a b ha hb hX zs
    have h2 := Int.natAbs_add_le (hom zs a b * a) (z * b ^ zs.length)
    rw [Int.natAbs_mul, Int.natAbs_mul, Int.natAbs_pow] at h2
    have h3 : (hom zs a b).natAbs * a.natAbs ≤ S1 zs * X ^ zs.length * X := Nat.mul_le_mul h1 ha
    have h4 : z.natAbs * b.natAbs ^ zs.length ≤ z.natAbs * X ^ (zs.length + 1) := Nat.mul_le_mul_left _ (Nat.le_trans (Nat.pow_le_pow_left hb _) (Nat.pow_le_pow_right hX (Nat.le_succ _)))
    have e : S1 zs * X ^ (zs.length + 1) = S1 zs * X ^ zs.length * X := by rw [Nat.pow_succ, Nat.mul_assoc]
    rw [Nat.add_mul, e]
    omega
/-- S * X^n with X below W^M, S at most n sizes below W^T -/
theorem fitsE {n N T M K : Nat} {S : Nat} (hS : S ≤ n * W ^ T) (hn : n ≤ N) (hN : N ≤ 1000) (hK : 1 + T + N * M ≤ K) : S * (W ^ M) ^ n < W ^ K :=
  Nat.lt_of_le_of_lt (Nat.mul_le_mul_right _ hS) (fits3 hn hN hK)
end Go.Proofs.Ytphofjinncbaaaa
namespace Go.Proofs.Ytphofjinncbaaaa
open Go.RowKit
set_option linter.unusedVariables false
set_option linter.unusedSimpArgs false

theorem zv_abs (r : Zc) : (zv r).natAbs = r.2 := sg_abs _ _
theorem ZPI.coef {L : Nat} {w : World} {v : Value} {rs : List Zc} (h : ZPI L w v rs) : ∀ z ∈ rs.map zv, z.natAbs < W ^ L := by
  obtain ⟨_, _, _, hs, _, _, _, h3⟩ := h
  intro z hz
  obtain ⟨r, hr, rfl⟩ := List.mem_map.1 hz
  obtain ⟨i, hi, e⟩ := List.mem_iff_getElem.1 hr
  obtain ⟨hd, r', e1, e2, h4⟩ := h3.at hi
  rw [List.getElem?_eq_getElem hi] at e2
  injection e2 with e2
  rw [zv_abs, ← e, e2]
  exact h4.2.lt
theorem ztr_mem {zs : List Int} {z : Int} (h : z ∈ ztr zs) : z ∈ zs := List.mem_of_mem_take h
theorem ZPI.ztrn {L n c : Nat} {A : Option Addr} {w : World} {rs : List Zc} (h : ZPI L w (.slice A n c) rs) : (ztr (rs.map zv)).length ≤ n := by
  have h1 := ztr_le (rs.map zv)
  rw [List.length_map] at h1
  rw [h.len.1]
  exact h1
theorem compR {A A2 : Option Addr} {n c n2 c2 L M K : Nat} {rs rs2 : List Zc} {w : World} (h : ZPI L w (.slice A n c) rs) (h2 : ZPI M w (.slice A2 n2 c2) rs2) (hn : n ≤ 40) (hn2 : n2 ≤ 40) (hK : L + 40 * M + 41 ≤ K) (hKb : K ≤ 4294967296) :
    Calls Try.prog 34 #[.slice A n c, .slice A2 n2 c2] w (GZP w K (ztr (cpl (ztr (rs.map zv)) (rs2.map zv) (backz (ztr (rs.map zv)).length (ztr (rs.map zv)).length)))) := by
  have hS : S1 (rs2.map zv) ≤ W ^ (M + 1) := by
    have h1 := S1_le (zs := rs2.map zv) (m := W ^ M) fun z hz => Nat.le_of_lt (h2.coef z hz)
    rw [List.length_map, ← h2.len.1] at h1
    refine Nat.le_trans h1 ?_
    rw [Nat.pow_succ, Nat.mul_comm]
    exact Nat.mul_le_mul_left _ (Nat.le_of_lt (W_big (by omega)))
  have hf := comp_fits (zs := ztr (rs.map zv)) (qs := rs2.map zv) (T := L) (U := M + 1) (K := K) (Nat.le_trans h.ztrn hn) (by rw [List.length_map, ← h2.len.1]; exact hn2) (fun z hz => Nat.le_of_lt (h.coef z (ztr_mem hz))) hS (by omega)
  exact compose_any h h2 (by omega) (by omega) hKb (by omega) (by omega) hf.1 hf.2
theorem shiftR {A A2 : Option Addr} {n c n2 c2 y L M K : Nat} {t : Bool} {rs : List Zc} {w : World} (h : ZPI L w (.slice A n c) rs) (h2 : Num w (.slice A2 n2 c2) y M) (hM : 1 ≤ M) (hn : n ≤ 40) (hK : L + 40 * M + 41 ≤ K) (hKb : K ≤ 4294967296) :
    Calls Try.prog 18 #[.slice A n c, .agg #[.bool t, .slice A2 n2 c2]] w (GZP w K (shl1 (ztr (rs.map zv)) (sg t y))) := by
  have hS : S1 (ztr [sg t y, 1]) ≤ W ^ (M + 1) := by
    rw [ztr_line]
    show (sg t y).natAbs + (1 + 0) ≤ _
    rw [sg_abs]
    have h1 := h2.lt
    have h2 := pow_mono (Nat.le_succ M)
    have e : M.succ = M + 1 := rfl
    rw [e] at h2
    omega
  have hf := comp_fits (zs := ztr (rs.map zv)) (qs := ztr [sg t y, 1]) (T := L) (U := M + 1) (K := K) (Nat.le_trans h.ztrn hn) (by rw [ztr_line]; simp) (fun z hz => Nat.le_of_lt (h.coef z (ztr_mem hz))) hS (by omega)
  exact shift_any h h2 (by omega) (by omega) hM hKb (by omega) hf.1 hf.2
theorem atR {N K : Nat} {A A2 : Option Addr} {n c n2 c2 y L M : Nat} {t : Bool} {rs : List Zc} {w : World} (h : ZPI L w (.slice A n c) rs) (h2 : Num w (.slice A2 n2 c2) y M) (hn : n ≤ N) (hN : N ≤ 1000) (hK : 1 + L + N * M ≤ K) (hKb : K ≤ 2147483648) (hM : M ≤ 2147483648) :
    Calls Try.prog 25 #[.slice A n c, .agg #[.bool t, .slice A2 n2 c2]] w (GI w (ev (rs.map zv) (sg t y)) K) := by
  refine atint_any h h2 (by omega) (by omega) (by omega) hKb (by omega) fun k hk => ?_
  have h1 := ev_size (sg t y) (X := W ^ M) (by rw [sg_abs]; exact Nat.le_of_lt h2.lt) (Nat.pow_pos W_pos) ((rs.map zv).drop k)
  have hl : ((rs.map zv).drop k).length ≤ N := by rw [List.length_drop, List.length_map, ← h.len.1]; omega
  exact Nat.lt_of_le_of_lt h1 (fitsE (T := L) (S1_le fun z hz => Nat.le_of_lt (h.coef z (List.mem_of_mem_drop hz))) hl hN hK)
theorem homR {K : Nat} {A A2 A3 : Option Addr} {n c n2 c2 n3 c3 L M x y : Nat} {s t : Bool} {rs : List Zc} {w : World} (h : ZPI L w (.slice A n c) rs) (h2 : Num w (.slice A2 n2 c2) x M) (h3 : Num w (.slice A3 n3 c3) y M) (hn : n ≤ 41) (hK : 1 + L + 41 * M ≤ K) (hKb : K ≤ 2147483648) :
    Calls Try.prog 33 #[.slice A n c, .agg #[.bool s, .slice A2 n2 c2], .agg #[.bool t, .slice A3 n3 c3]] w (GI w (hom (ztr (rs.map zv)) (sg s x) (sg t y)) K) := by
  have hle := h.ztrn
  refine homog_any h h2 h3 (by omega) (by omega) (by omega) hKb (by omega) (fun k hk => ?_) (fun j hj => ?_)
  · have h1 := hom_size (sg s x) (sg t y) (X := W ^ M) (by rw [sg_abs]; exact Nat.le_of_lt h2.lt) (by rw [sg_abs]; exact Nat.le_of_lt h3.lt) (Nat.pow_pos W_pos) ((ztr (rs.map zv)).drop k)
    have hl : ((ztr (rs.map zv)).drop k).length ≤ 41 := by rw [List.length_drop]; omega
    exact Nat.lt_of_le_of_lt h1 (fitsE (T := L) (S1_le fun z hz => Nat.le_of_lt (h.coef z (ztr_mem (List.mem_of_mem_drop hz)))) hl (by omega) hK)
  · rw [Int.natAbs_pow, sg_abs]
    refine Nat.lt_of_le_of_lt (Nat.pow_le_pow_left (Nat.le_of_lt h3.lt) _) ?_
    rw [← Nat.pow_mul]
    refine Nat.pow_lt_pow_right W_gt ?_
    have : M * j ≤ M * 41 := Nat.mul_le_mul_left _ (by omega)
    omega
theorem scl_fits {zs : List Int} {a : Int} {L M K : Nat} (hl : zs.length ≤ 40) (hz : ∀ z ∈ zs, z.natAbs < W ^ L) (ha : a.natAbs ≤ W ^ M) (hK : 1 + L + 41 * M ≤ K) :
    (∀ z ∈ zs, z.natAbs < W ^ K) ∧ (∀ j, j < zs.length → (zn zs j * a ^ j).natAbs < W ^ K) ∧ (∀ j, j ≤ zs.length → (a ^ j).natAbs < W ^ K) := by
  have hp : ∀ j, j ≤ 40 → (a ^ j).natAbs ≤ W ^ (40 * M) := fun j hj => by
    rw [Int.natAbs_pow]
    refine Nat.le_trans (Nat.pow_le_pow_left ha _) ?_
    rw [← Nat.pow_mul, Nat.mul_comm]
    exact pow_mono (Nat.mul_le_mul_right _ hj)
  refine ⟨fun z h => Nat.lt_of_lt_of_le (hz z h) (pow_mono (by omega)), fun j hj => ?_, fun j hj => Nat.lt_of_le_of_lt (hp j (by omega)) (Nat.pow_lt_pow_right W_gt (by omega))⟩
  rw [Int.natAbs_mul, zn_of (List.getElem?_eq_getElem hj)]
  have h1 := hz _ (List.getElem_mem hj)
  refine Nat.lt_of_le_of_lt (Nat.mul_le_mul (Nat.le_of_lt h1) (hp j (by omega))) ?_
  rw [← Nat.pow_add]
  exact Nat.pow_lt_pow_right W_gt (by omega)
theorem scaleR {A A2 : Option Addr} {n c n2 c2 L M K y : Nat} {t : Bool} {rs : List Zc} {w : World} (h : ZPI L w (.slice A n c) rs) (h2 : Num w (.slice A2 n2 c2) y M) (hn : n ≤ 40) (hK : 1 + L + 41 * M ≤ K) (hKb : K ≤ 1073741824) :
    Calls Try.prog 28 #[.slice A n c, .agg #[.bool t, .slice A2 n2 c2]] w (GZP w K (ztr (scl (ztr (rs.map zv)) (sg t y)))) := by
  have hle := h.ztrn
  have hf := scl_fits (zs := ztr (rs.map zv)) (a := sg t y) (L := L) (M := M) (K := K) (by omega) (fun z hz => h.coef z (ztr_mem hz)) (by rw [sg_abs]; exact Nat.le_of_lt h2.lt) hK
  exact scale_any h h2 (by omega) (by omega) (by omega) (by omega) (by omega) hf.1 hf.2.1 hf.2.2
theorem flipR {A : Option Addr} {n c L K : Nat} {rs : List Zc} {w : World} (h : ZPI L w (.slice A n c) rs) (hn : n ≤ 40) (hK : L + 42 ≤ K) (hKb : K ≤ 1073741824) :
    Calls Try.prog 30 #[.slice A n c] w (GZP w K (ztr (scl (ztr (rs.map zv)) (-1)))) := by
  have hle := h.ztrn
  have hf := scl_fits (zs := ztr (rs.map zv)) (a := -1) (L := L) (M := 1) (K := K) (by omega) (fun z hz => h.coef z (ztr_mem hz)) (by rw [W_eq]; decide) (by omega)
  exact flip_any h (by omega) (by omega) (by omega) (by omega) hf.1 hf.2.1 hf.2.2
end Go.Proofs.Ytphofjinncbaaaa
