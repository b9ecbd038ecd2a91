/-
  The document's tools of arithmetic (surdref05): Zero, Bits. Integers: sign and size. What a call gives that answers an integer in its own form. The document's tools (surdref05): Cmp, Minus, I, Z, Neg, Add, Sub, Mul, Exact, SameInt. The document's divisors (surdref05): Gcd, All, Lcm, AllLcm, Coprime; gcd.AllLcm. The n-th root, rounded down, in plain Lean. Walks: gcd.two, power, Root, Sqrt. A law for regions that draw their order and store at their end: what is stored may be memory that was loaded before: each store waits for all that is taken first. No program here. The helpers of the laws of layer 5 (surdlaw05): copied, copies, few, less, inForm, fixed. surdlaw05.fixed. Walks: gcd.Inverse, gcd.Count. How often a number divides another. The document's roots and counts (surdref05): Two, below, Pow, Root, Sqrt, Count. Boxes that float: a new variable's memory in a region that draws its order; stores into it at the region's end. Stores leave other kinds of memory alone. No program here. The document's integers (surdref05): Neg, Sub, Exact, mod. The document's some (surdref05): a factor of a that gives the gcd modulo b. The document's Extended and Inverse (surdref05).
-/
import Derived.Test.YtamfhmmcnlollaaGreatRef5X
import Derived.Test.YtamfhmmcnlollaaGreatDigQ
import Derived.Test.YtamfhmmcnlollaaGreatGcd
import Derived.Test.YtamfhmmcnlollaaGreatGcdD
import Derived.Test.YtamfhmmcnlollaaGreatPowX
import Derived.Test.YtamfhmmcnlollaaGreatNatB
import Derived.Test.YtamfhmmcnlollaaGreatOrd
import Derived.Test.YtamfhmmcnlollaaGreatRows2
namespace Go.Proofs.YtamfhmmcnlollaaGreat
open Go.RowKit
set_option linter.unusedVariables false

set_option maxHeartbeats 400000 in
theorem zero5_any {v : Value} {x L : Nat} {w : World} (h : Num w v x L) (hL : L ≤ 17179869184) : Calls Tryz.prog 89 #[v] w (Keeps (.bool (decide (x = 0))) w) := by
  have C := Lib.hid (digits5_any h (by omega))
  obtain ⟨_, _, _, _, rfl, _⟩ := id h
  clear h
  go_enter Tryz.func89, Tryz.ntmps89
  go_wp2_with fail
  refine C.out.mono ?_
  rintro e w1 ⟨A, n, c, rfl, ho, hb⟩
  have HB := Lib.hid hb
  have hq : ((n : Int) == 0) = decide (x = 0) := by
    have e1 : n = 0 ↔ x = 0 := by rw [← dg_nil_iff D_gt (x := x), ← List.length_eq_zero_iff, ho.len]
    by_cases h0 : x = 0
    · rw [decide_eq_true h0, beq_iff_eq]; have := e1.2 h0; omega
    · rw [decide_eq_false h0, beq_eq_false_iff_ne]
      intro h1
      exact h0 (e1.1 (by omega))
  generalize decide (x = 0) = bb at *
  clear ho hb
  go_wp2
  go_ret
  exact ⟨rfl, HB.out⟩
end Go.Proofs.YtamfhmmcnlollaaGreat
namespace Go.Proofs.YtamfhmmcnlollaaGreat
open Go.RowKit
set_option linter.unusedVariables false

/-- the integer of a sign and a size -/
def sg (s : Bool) (x : Nat) : Int := if s = true then -(x : Int) else (x : Int)
theorem sg_false (x : Nat) : sg false x = (x : Int) := rfl
theorem sg_true (x : Nat) : sg true x = -(x : Int) := rfl
theorem sg_abs (s : Bool) (x : Nat) : (sg s x).natAbs = x := by unfold sg; split <;> simp
theorem sg_neg (s : Bool) (x : Nat) : decide (sg s x < 0) = (s && decide (0 < x)) := by
  unfold sg
  cases s
  · simp
  · simp
/-- a new integer in its own form -/
def GI (w : World) (z : Int) (L : Nat) (e : Ending) (w' : World) : Prop :=
  ∃ A n c s, e = .returned (.agg #[.bool s, .slice A n c]) ∧ Hid (s = decide (z < 0)) ∧ Own .u64 41 w.heap.size w' A n c (dg W z.natAbs) ∧ Below w.heap.size w w' ∧ n ≤ L
theorem GI.mono {w w' : World} {z : Int} {L L' : Nat} {e : Ending} (h : GI w z L e w') (hL : L ≤ L') : GI w z L' e w' := by
  obtain ⟨A, n, c, s, h1, h2, h3, h4, h5⟩ := h
  exact ⟨A, n, c, s, h1, h2, h3, h4, by omega⟩
theorem Own.cells2 {k : IntKind} {t : TypeId} {B n c b : Nat} {w : World} {A : Option Addr} {xs : List Nat} {u1 u2 : Value} (h : Own k t B w A n c xs) (hp : b < B) : Own k t B ((w.setCell ⟨b, 0, none⟩ u1).setCell ⟨b, 1, none⟩ u2) A n c xs :=
  (h.set_low (p := ⟨b, 0, none⟩) hp u1).set_low (p := ⟨b, 1, none⟩) hp u2
theorem below_cells2 {B b : Nat} {w w' : World} {u1 u2 : Value} (h : Below B w w') (hb : B ≤ b) : Below B w ((w'.setCell ⟨b, 0, none⟩ u1).setCell ⟨b, 1, none⟩ u2) :=
  (h.setCell (p := ⟨b, 0, none⟩) hb u1).setCell (p := ⟨b, 1, none⟩) hb u2
theorem At.growS {w : World} {p : Addr} {v : Value} {b : Nat} (h : At w p v) (hne : p.block ≠ b) : ∀ w', Grow (some b) w.drew w' → w'.cell? p = some v := fun w' g => g.cell (p := p) (v := v) h.1 (by simpa using hne)
/-- the end of a walk that answers one integer -/
theorem gi_fin {w wb w' : World} {z : Int} {L b n c : Nat} {s : Bool} {A : Option Addr} {u1 u2 : Value} (hs : s = decide (z < 0)) (ho : Own .u64 41 wb.heap.size w' A n c (dg W z.natAbs)) (hb : Below w.heap.size w w') (hwb : w.heap.size ≤ b ∧ b < wb.heap.size) (hl : n ≤ L) :
    GI w z L (.returned (.agg #[.bool s, .slice A n c])) ((w'.setCell ⟨b, 0, none⟩ u1).setCell ⟨b, 1, none⟩ u2) :=
  ⟨A, n, c, s, rfl, hs, (ho.cells2 hwb.2).mono (by omega), below_cells2 hb hwb.1, hl⟩

theorem At.boxc {i : Nat} {v : Value} {t : TypeId} {b : Nat} (w : World) (vs : Array Value) (h : vs[i]? = some v) (hb : b = w.heap.size) : At (w.alloc (.cells vs t)) ⟨b, i, none⟩ v := by
  subst hb; exact At.box w vs h
theorem same5q_any {A A2 : Option Addr} {n c m c2 : Nat} {xs ys : List Nat} {w : World} (h : Rd .u64 w A n c xs) (h' : Rd .u64 w A2 m c2 ys) (hn : n ≤ 1099511627776) :
    Calls Tryz.prog 14 #[.slice A n c, .slice A2 m c2] w (Quiet (.bool (decide (xs = ys))) w) := by
  have C := Lib.hid (same1_any h h' hn)
  clear h h'
  generalize decide (xs = ys) = bb at *
  go_enter Tryz.func14, Tryz.ntmps14
  go_wp2_with fail
  refine C.out.mono ?_
  rintro e w1 ⟨rfl, hb⟩
  go_wp2
  go_ret
  exact ⟨rfl, hb⟩
set_option maxHeartbeats 400000 in
theorem I5_pos {v : Value} {x L : Nat} {w : World} (h : Num w v x L) (hx : True) (hL : L ≤ 17179869184) : Calls Tryz.prog 83 #[.bool false, v] w (GI w (sg false x) L) := by
  have H := Lib.hid h
  have HXX := Lib.hid hx
  obtain ⟨_, _, _, _, rfl, _⟩ := id h
  clear h hx
  go_enter Tryz.func83, Tryz.ntmps83
  go_wp2_with fail
  refine (norm5_any (H.out.below ((Below.refl _ _).alloc (Nat.le_refl _) (.cells #[.bool false, .slice none 0 0] 60))) (by omega)).mono ?_
  rintro e w1 ⟨A_r, n_r, c_r, rfl, o_r, hb1, l_r⟩
  skip
  have hr := o_r
  rw [← sg_abs false x] at hr
  have HR := Lib.hid hr
  clear hr
  have HB := Lib.hid (bt ((Below.refl _ _).alloc (Nat.le_refl _) (.cells #[.bool false, .slice none 0 0] 60)) hb1)
  have c1 := ((Cel.box (i := 0) (v := .bool false) (t := 60) (b := w.heap.size) w #[.bool false, .slice none 0 0] rfl (by simp)).below hb1)
  have c2 := ((Cel.box (i := 1) (v := .slice none 0 0) (t := 60) (b := w.heap.size) w #[.bool false, .slice none 0 0] rfl (by simp)).below hb1)
  obtain ⟨c1a, c1b, c1c⟩ := c1
  obtain ⟨c2a, c2b, c2c⟩ := c2
  go_wp2
  refine bodyPost_ret (v := .agg #[.bool false, .slice A_r n_r c_r]) (by simp [results, Tryz.results83, go_sem, c1a, c2a]) rfl ?_
  exact gi_fin (by rw [sg_neg]; rfl) HR.out HB.out (by simp) (by omega)
set_option maxHeartbeats 400000 in
theorem I5_zero {v : Value} {x L : Nat} {w : World} (h : Num w v x L) (hx : x = 0) (hL : L ≤ 17179869184) : Calls Tryz.prog 83 #[.bool true, v] w (GI w (sg true x) L) := by
  have H := Lib.hid h
  have HXX := Lib.hid hx
  obtain ⟨_, _, _, _, rfl, _⟩ := id h
  clear h hx
  go_enter Tryz.func83, Tryz.ntmps83
  go_wp2_with fail
  refine (norm5_any (H.out.below ((Below.refl _ _).alloc (Nat.le_refl _) (.cells #[.bool false, .slice none 0 0] 60))) (by omega)).mono ?_
  rintro e w1 ⟨A_r, n_r, c_r, rfl, o_r, hb1, l_r⟩
  (obtain rfl := len_zero o_r HXX.out)
  have hr := o_r
  rw [← sg_abs true x] at hr
  have HR := Lib.hid hr
  clear hr
  have HB := Lib.hid (bt ((Below.refl _ _).alloc (Nat.le_refl _) (.cells #[.bool false, .slice none 0 0] 60)) hb1)
  have c1 := ((Cel.box (i := 0) (v := .bool false) (t := 60) (b := w.heap.size) w #[.bool false, .slice none 0 0] rfl (by simp)).below hb1)
  have c2 := ((Cel.box (i := 1) (v := .slice none 0 0) (t := 60) (b := w.heap.size) w #[.bool false, .slice none 0 0] rfl (by simp)).below hb1)
  obtain ⟨c1a, c1b, c1c⟩ := c1
  obtain ⟨c2a, c2b, c2c⟩ := c2
  go_wp2
  refine bodyPost_ret (v := .agg #[.bool false, .slice A_r 0 c_r]) (by simp [results, Tryz.results83, go_sem, c1a, c2a]) rfl ?_
  exact gi_fin (by rw [sg_neg]; (rw [HXX.out]; rfl)) HR.out HB.out (by simp) (by omega)
set_option maxHeartbeats 400000 in
theorem I5_neg {v : Value} {x L : Nat} {w : World} (h : Num w v x L) (hx : 0 < x) (hL : L ≤ 17179869184) : Calls Tryz.prog 83 #[.bool true, v] w (GI w (sg true x) L) := by
  have H := Lib.hid h
  have HXX := Lib.hid hx
  obtain ⟨_, _, _, _, rfl, _⟩ := id h
  clear h hx
  go_enter Tryz.func83, Tryz.ntmps83
  go_wp2_with fail
  refine (norm5_any (H.out.below ((Below.refl _ _).alloc (Nat.le_refl _) (.cells #[.bool false, .slice none 0 0] 60))) (by omega)).mono ?_
  rintro e w1 ⟨A_r, n_r, c_r, rfl, o_r, hb1, l_r⟩
  (have z1 := len_pos o_r HXX.out)
  have hr := o_r
  rw [← sg_abs true x] at hr
  have HR := Lib.hid hr
  clear hr
  have HB := Lib.hid (bt ((Below.refl _ _).alloc (Nat.le_refl _) (.cells #[.bool false, .slice none 0 0] 60)) hb1)
  have c1 := ((Cel.box (i := 0) (v := .bool false) (t := 60) (b := w.heap.size) w #[.bool false, .slice none 0 0] rfl (by simp)).below hb1)
  have c2 := ((Cel.box (i := 1) (v := .slice none 0 0) (t := 60) (b := w.heap.size) w #[.bool false, .slice none 0 0] rfl (by simp)).below hb1)
  obtain ⟨c1a, c1b, c1c⟩ := c1
  obtain ⟨c2a, c2b, c2c⟩ := c2
  go_wp2
  refine bodyPost_ret (v := .agg #[.bool true, .slice A_r n_r c_r]) (by simp [results, Tryz.results83, go_sem, c1a, c2a]) rfl ?_
  exact gi_fin (by rw [sg_neg]; (rw [decide_eq_true HXX.out]; rfl)) HR.out HB.out (by simp) (by omega)
theorem I5_any {v : Value} {x L : Nat} {s : Bool} {w : World} (h : Num w v x L) (hL : L ≤ 17179869184) : Calls Tryz.prog 83 #[.bool s, v] w (GI w (sg s x) L) := by
  cases s
  · exact I5_pos h trivial hL
  · rcases Nat.eq_zero_or_pos x with hx | hx
    · exact I5_zero h hx hL
    · exact I5_neg h hx hL

end Go.Proofs.YtamfhmmcnlollaaGreat
namespace Go.Proofs.YtamfhmmcnlollaaGreat
open Go.RowKit
set_option linter.unusedVariables false

/-- the number that a slice of digits reads as -/
def mvalb (b : Nat) (w : World) : Value → Nat
  | .slice (some a) n _ => val b ((List.range n).map fun i => cellNat (w.cell? (a.add i)))
  | _ => 0
theorem mvalb_rd {b : Nat} {k : IntKind} {w : World} {A : Option Addr} {n c : Nat} {xs : List Nat} (h1 : Rd k w A n c xs) : mvalb b w (.slice A n c) = val b xs := by
  rcases A with _ | a
  · have hn : n = 0 := by
      rcases Nat.eq_zero_or_pos n with h0 | h0
      · exact h0
      · obtain ⟨b, off, e, _⟩ := h1.2 h0
        cases e
    have := h1.len
    rw [hn] at this
    rw [List.eq_nil_of_length_eq_zero this]
    rfl
  · have : (List.range n).map (fun i => cellNat (w.cell? (a.add i))) = xs := by
      refine List.ext_getElem (by simp [h1.len]) fun i hi hi' => ?_
      have hin : i < n := by simpa using hi
      obtain ⟨b, off, e, _, hc⟩ := h1.at hin
      injection e with e
      subst e
      simp only [List.getElem_map, List.getElem_range, addo, hc, cellNat]
      rw [nth_lt hi']
      simp
    simp only [mvalb, this]
def Gc5I (w0 : World) (x y K : Nat) (wr : World) (A1 : Option Addr) (n1 c1 : Nat) (A2 : Option Addr) (n2 c2 s t : Nat) : Prop :=
  Own .i64 3 w0.heap.size wr A1 n1 c1 (dg D s) ∧ Own .i64 3 w0.heap.size wr A2 n2 c2 (dg D t) ∧ Below w0.heap.size w0 wr ∧ Nat.gcd s t = Nat.gcd x y ∧ n1 ≤ 4 * K ∧ n2 ≤ 4 * K
set_option maxHeartbeats 2000000 in
theorem gcd5_any {v u : Value} {x y L M K : Nat} {w : World} (h : Num w v x L) (h' : Num w u y M) (hLK : L ≤ K) (hMK : M ≤ K) (hK1 : 1 ≤ K) (hK : K ≤ 17179869184) :
    Calls Tryz.prog 46 #[v, u] w (GN w (Nat.gcd x y) K) := by
  have H := Lib.hid h
  have H' := Lib.hid h'
  have C := Lib.hid (ones63_any h h' (by omega) (by omega))
  have HX := Lib.hid h.lt
  have HY := Lib.hid h'.lt
  obtain ⟨_, _, _, _, rfl, _⟩ := id h
  obtain ⟨_, _, _, _, rfl, _⟩ := id h'
  clear h h'
  go_enter Tryz.func46, Tryz.ntmps46
  go_wp2_with fail
  refine C.out.mono ?_
  rintro e wo ⟨p, q, t, rfl, ht, hbo⟩
  have HBo := Lib.hid hbo
  rcases t with _ | _
  · clear ht
    go_wp2
    go_loop [5] (fun sv => sv = .int .u64 (p : Int)) (fun sv => 0)
    case atStart => rfl
    case round =>
      subst hrel
      go_wp2_with fail
      refine (digits5_any (H.out.below hbo) (by omega)).mono ?_
      rintro e w1 ⟨A_da, n_da, c_da, rfl, o_da, hb1⟩
      go_wp2_with fail
      refine (digits5_any ((H'.out.below hbo).below hb1) (by omega)).mono ?_
      rintro e w2 ⟨A_db, n_db, c_db, rfl, o_db, hb2⟩
      have HS : Hid (Gc5I w x y K w2 A_da n_da c_da A_db n_db c_db x y) := ⟨((o_da.mono hbo.size).below hb2), (o_db.mono (bt hbo hb1).size), (bt (bt hbo hb1) hb2), rfl, by rw [← o_da.len]; exact Nat.le_trans (dg_len D_gt (by have := HX.out; rw [W_D, ← Nat.pow_mul] at this; exact this)) (by omega), by rw [← o_db.len]; exact Nat.le_trans (dg_len D_gt (by have := HY.out; rw [W_D, ← Nat.pow_mul] at this; exact this)) (by omega)⟩
      clear o_da o_db
      go_wp2
      go_loopw [8, 9] (fun av bv wr => ∃ (A1 A2 : Option Addr) (n1 c1 n2 c2 s t : Nat), Hid (Gc5I w x y K wr A1 n1 c1 A2 n2 c2 s t) ∧ av = .slice A1 n1 c1 ∧ bv = .slice A2 n2 c2) (fun av bv wr => mvalb D wr bv)
      case atStart => exact ⟨_, _, _, _, _, _, _, _, HS, rfl, rfl⟩
      case round =>
        obtain ⟨A1, A2, n1, c1, n2, c2, s, t, hI, rfl, rfl⟩ := hrel
        obtain ⟨o1, o2, hbw, hg, l1, l2⟩ := hI.out
        have HG := Lib.hid hg
        have HBW := Lib.hid hbw
        rcases Nat.eq_zero_or_pos t with ht | ht
        · have hn0 : n2 = 0 := by rw [← o2.len, ht, dg_zero D_gt]; rfl
          subst hn0
          have C2 := Lib.hid (number5_any (L := 4 * K) (o1.dig (dg_all D_gt s) (dg_val D_gt s) l1) (by omega))
          have HE : Hid (s = Nat.gcd x y) := by show _ = _; rw [← hg, ht, Nat.gcd_zero_right]
          clear hI o1 o2 hbw hg
          go_wp2_with fail
          refine C2.out.mono ?_
          rintro e w3 ⟨A3, n3, c3, rfl, ho3, hb3, hl3⟩
          have HO := Lib.hid (And.intro (ho3.mono HBW.out.size) (bt HBW.out hb3))
          rw [HE.out] at HO
          clear ho3 hb3
          go_wp2
          go_ret
          exact ⟨_, _, _, rfl, HO.out.1, HO.out.2, by omega⟩
        · have hn0 : 0 < n2 := by
            rw [← o2.len]
            exact List.length_pos_iff.2 fun e => by rw [dg_nil_iff D_gt] at e; omega
          have HTB : Hid (nth (dg D t) (n2 - 1) ≠ 0) := by
            have := norm_top (dg_norm (b := D) t) (by rw [o2.len]; exact hn0)
            rw [o2.len] at this
            exact this
          have CD := Lib.hid (divide5_any o1.rd o2.rd (dg_all D_gt s) (dg_all D_gt t) (dg_val D_gt t) hn0 HTB.out (by omega) (by omega))
          rw [dg_val D_gt] at CD
          have HMV : Hid (mvalb D wr (.slice A2 n2 c2) = t) := by show _ = _; rw [mvalb_rd o2.rd, dg_val D_gt]
          have HLT : Hid (s % t < t) := Nat.mod_lt _ ht
          have HO2 := Lib.hid o2
          clear hI o1 o2 hbw hg ht HTB
          go_wp2_with fail
          refine CD.out.mono ?_
          rintro e wd ⟨A_q, n_q, c_q, A_r, n_r, c_r, xq, xr, rfl, o_q, a_q, v_q, l_q, o_r, a_r, v_r, l_r, hbd⟩
          have C3 := Lib.hid (cut5_any o_r.rd (by omega))
          have HOR := Lib.hid (And.intro o_r hbd)
          have HVR : Hid (strip xr = dg D (s % t)) := by show _ = _; rw [strip_eq_dg D_gt a_r, v_r]
          clear o_q a_q v_q l_q o_r a_r v_r hbd
          go_wp2_with fail
          refine C3.out.mono ?_
          rintro e w6 ⟨q6, rfl, hq6, ht6, rfl⟩
          have HF := HOR.out.1.upto hq6
          rw [ht6, HVR.out] at HF
          have HNEW : Hid (Gc5I w x y K wd A2 n2 c2 A_r q6 c_r t (s % t) ∧ mvalb D wd (.slice A_r q6 c_r) = s % t) := by
            refine ⟨⟨HO2.out.below HOR.out.2, HF.mono HBW.out.size, bt HBW.out HOR.out.2, ?_, l2, by omega⟩, ?_⟩
            · rw [← HG.out, Nat.gcd_comm t, ← Nat.gcd_rec, Nat.gcd_comm]
            · rw [mvalb_rd HF.rd, dg_val D_gt]
          clear HF ht6
          go_wp2
          go_roundw
          case rel => exact ⟨_, _, _, _, _, _, _, _, HNEW.out.1, rfl, rfl⟩
          case measure => rw [HNEW.out.2, HMV.out]; exact HLT.out
  · obtain ⟨rfl, rfl, hx, hy⟩ := ht rfl
    clear ht
    go_wp2
    go_loopw [5, 6] (fun sv tv wr => ∃ (s t : Nat), Hid (Nat.gcd s t = Nat.gcd p q ∧ Below wo.heap.size wo wr) ∧ s < 9223372036854775808 ∧ t < 9223372036854775808 ∧ sv = .int .u64 (s : Int) ∧ tv = .int .u64 (t : Int)) (fun _ tv _ => (intOf tv).toNat)
    case atStart => exact ⟨p, q, ⟨rfl, Below.refl _ _⟩, hx, hy, rfl, rfl⟩
    case round =>
      obtain ⟨s, t, hI, hs, ht, rfl, rfl⟩ := hrel
      rcases Nat.eq_zero_or_pos t with h0 | h0
      · subst h0
        have d0 : decide ((0 : Int) < ((0 : Nat) : Int)) = false := by simp
        have HE : Hid (s = Nat.gcd p q) := by show _ = _; rw [← hI.out.1, Nat.gcd_zero_right]
        have hbw := Lib.hid (bt HBo.out hI.out.2)
        go_wp2_with fail
        refine (of5_any (x := s) rfl (by rw [W_eq]; omega)).mono ?_
        rintro e w3 ⟨A3, n3, c3, rfl, ho3, hb3, hl3⟩
        have HO := Lib.hid (And.intro (ho3.mono hbw.out.size) (bt hbw.out hb3))
        rw [HE.out] at HO
        clear ho3 hb3
        go_wp2
        go_ret
        exact ⟨_, _, _, rfl, HO.out.1, HO.out.2, by omega⟩
      · have d0 : decide ((0 : Int) < (t : Int)) = true := by simp; exact h0
        have nz : ((t : Int) == 0) = false := by rw [beq_eq_false_iff_ne]; omega
        have nz2 : (t : Int) ≠ 0 := by omega
        have nz3 : ¬ t = 0 := by omega
        obtain ⟨R, hR⟩ : ∃ R, R = s % t := ⟨_, rfl⟩
        have eR : (s : Int) % (t : Int) = (R : Int) := by rw [hR, Int.natCast_emod]
        have hRl : R < t := by rw [hR]; exact Nat.mod_lt _ h0
        have HR : Hid (Nat.gcd t R = Nat.gcd p q) := by show _ = _; rw [hR, ← hI.out.1, Nat.gcd_comm t, ← Nat.gcd_rec, Nat.gcd_comm]
        have eR2 := lay (show (s : Int).tmod (t : Int) = (R : Int) by rw [Int.tmod_eq_emod_of_nonneg (by omega)]; exact eR)
        have wR : IntKind.u64.wrap (R : Int) = (R : Int) := wrapN _ (by omega)
        have WR := lay wR
        clear hR wR
        go_wp2_with fail
        refine wp_region_grow none [(true, 0), (true, 1), (true, 2), (true, 3), (true, 4), (true, 5)] (by kernel_rfl) (by kernel_rfl) ?_
        repeat (refine ord_pas (by rfl) (fun K hK => ?_); go_simp; refine hK _ _ (fun w' hw' => (by first | (go_simp; done) | (go_simp; intro hh; cases hh))) ?_; clear hK K)
        refine ord_nil ?_
        go_wp2
        go_roundw
        case rel => exact ⟨t, R, ⟨HR.out, bt hI.out.2 (below_drewN _ 1)⟩, ht, by omega, rfl, rfl⟩
        case measure => simp [intOf]; omega

end Go.Proofs.YtamfhmmcnlollaaGreat
namespace Go.Proofs.YtamfhmmcnlollaaGreat
open Go.RowKit
set_option linter.unusedVariables false

/-- the n-th root, rounded down -/
def nroot (n : Nat) : Nat → Nat
  | 0 => 0
  | a + 1 => if (nroot n a + 1) ^ n ≤ a + 1 then nroot n a + 1 else nroot n a
theorem nroot_spec {n : Nat} (hn : 1 ≤ n) (a : Nat) : nroot n a ^ n ≤ a ∧ a < (nroot n a + 1) ^ n := by
  induction a with
  | zero => exact ⟨by rw [nroot, Nat.zero_pow (by omega)]; exact Nat.le_refl _, by rw [nroot]; simp⟩
  | succ a ih =>
    obtain ⟨h1, h2⟩ := ih
    rw [nroot]
    split
    · rename_i h
      exact ⟨h, Nat.lt_of_le_of_lt (show a + 1 ≤ (nroot n a + 1) ^ n from h2) (Nat.pow_lt_pow_left (by omega) (by omega))⟩
    · rename_i h
      exact ⟨by omega, by omega⟩
theorem nroot_uniq {n a s : Nat} (hn : 1 ≤ n) (h1 : s ^ n ≤ a) (h2 : a < (s + 1) ^ n) : nroot n a = s := by
  obtain ⟨g1, g2⟩ := nroot_spec hn a
  rcases Nat.lt_trichotomy s (nroot n a) with h | h | h
  · have := Nat.pow_le_pow_left (show s + 1 ≤ nroot n a from h) n
    omega
  · exact h.symm
  · have := Nat.pow_le_pow_left (show nroot n a + 1 ≤ s from h) n
    omega
/-- bit by bit: the bits from j on are found -/
def RtI (n a q s j : Nat) : Prop := s ^ n ≤ a ∧ a < (s + 2 ^ j) ^ n ∧ s + 2 ^ j ≤ 2 ^ (q + 1)
theorem RtI.start {n a : Nat} (hn : 1 ≤ n) : RtI n a (nb a / n) 0 (nb a / n + 1) := by
  refine ⟨by rw [Nat.zero_pow (by omega)]; exact Nat.zero_le _, ?_, by omega⟩
  rw [Nat.zero_add, ← Nat.pow_mul]
  refine Nat.lt_of_lt_of_le (nb_lt a) (Nat.pow_le_pow_right (by omega) ?_)
  have := Nat.lt_div_mul_add (a := nb a) (b := n) (by omega)
  rw [Nat.add_mul, Nat.one_mul]
  omega
theorem RtI.done {n a q s : Nat} (h : RtI n a q s 0) (hn : 1 ≤ n) : s = nroot n a := by
  obtain ⟨h1, h2, h3⟩ := h
  exact (nroot_uniq hn h1 (by simpa using h2)).symm
end Go.Proofs.YtamfhmmcnlollaaGreat
namespace Go.Proofs.YtamfhmmcnlollaaGreat
open Go.RowKit
set_option linter.unusedVariables false

section
variable {P : Program} {ops : Array Oper} {md : Region.Mode} {Q : Exit → Act → World → Prop} {st : List Nat}
end
section
variable {P : Program} {l : List Oper} {Q : Exit → Act → World → Prop}
end
end Go.Proofs.YtamfhmmcnlollaaGreat
namespace Go.Proofs.YtamfhmmcnlollaaGreat
open Go.RowKit
set_option linter.unusedVariables false

theorem Cel.put {w : World} {p : Addr} {v u : Value} (h : Cel w p v) : Cel (w.setCell p u) p u :=
  ⟨World.cell?_setCell_same _ _ _ h.1, by rw [World.frozen?_setCell]; exact h.2.1, by simpa [World.setCell] using h.2.2⟩
theorem Cel.set {w : World} {p q : Addr} {v u : Value} (h : Cel w p v) (hne : q ≠ p) : Cel (w.setCell q u) p v :=
  ⟨by rw [World.cell?_setCell_other _ _ _ _ hne]; exact h.1, by rw [World.frozen?_setCell]; exact h.2.1, by simpa [World.setCell] using h.2.2⟩
theorem Cel.drew {w : World} {p : Addr} {v : Value} (h : Cel w p v) : Cel w.drew p v := h
theorem dg_small {x : Nat} (h0 : 0 < x) (hx : x < W) : dg W x = [x] := by
  have := norm_dg (b := W) (xs := [x]) W_gt (All.cons hx All.nil) (strip_snoc (xs := []) (by omega))
  rw [this]
  simp [val]
/-- an own slice of one-cell values -/
def OwnV (T : TypeId) (B : Nat) (w : World) (A : Option Addr) (n c : Nat) (vs : List Value) : Prop := w.ownsRow B T 1 (.slice A n c) n vs
theorem OwnV.nil {T : TypeId} {B : Nat} {w : World} : OwnV T B w none 0 0 [] := World.ownsRow_nil _ _ _ _
theorem OwnV.below {T : TypeId} {B n c : Nat} {w w' : World} {A : Option Addr} {vs : List Value} (h : OwnV T B w A n c vs) (hb : Below w.heap.size w w') : OwnV T B w' A n c vs := ownsRow_below h hb
theorem OwnV.cap {T : TypeId} {B n c : Nat} {w : World} {A : Option Addr} {vs : List Value} (h : OwnV T B w A n c vs) : n ≤ c ∧ c ≤ maxLen := by
  rcases h.2 with ⟨h3, h4⟩ | ⟨g, cap, cur, hv, hg, hh, hnc, hcm, r⟩
  · injection h3 with _ e1 e2; subst e1; subst e2; exact ⟨Nat.le_refl _, Nat.zero_le _⟩
  · injection hv with _ _ e; subst e; exact ⟨hnc, hcm⟩
theorem OwnV.set_low {T : TypeId} {B n c : Nat} {w : World} {A : Option Addr} {vs : List Value} {p : Addr} (h : OwnV T B w A n c vs) (hp : p.block < B) (u : Value) : OwnV T B (w.setCell p u) A n c vs := by
  refine ⟨h.1, ?_⟩
  rcases h.2 with h2 | ⟨g, cap, cur, hv, hg, hh, r⟩
  · exact .inl h2
  · refine .inr ⟨g, cap, cur, hv, hg, ?_, r⟩
    rw [Below.heap_setCell w p u g (by rintro rfl; omega)]
    exact hh
/-- the case in its box, the answer's box behind it -/
def LessB (w0 : World) (vs us : Array Value) (wr : World) : Prop :=
  Below w0.heap.size w0 wr ∧ w0.heap.size + 1 + 1 ≤ wr.heap.size ∧ (∀ i v, vs[i]? = some v → Cel wr ⟨w0.heap.size, i, none⟩ v) ∧ (∀ i v, us[i]? = some v → Cel wr ⟨w0.heap.size + 1, i, none⟩ v)
theorem LessB.start {w : World} {vs us : Array Value} {t : TypeId} : LessB w vs us (((w.alloc (.cells vs t)).alloc (.cells us t)).drew) := by
  refine ⟨((belowA w _).trans ((belowA _ _).mono (by simp))).drew, by simp [World.drew], fun i v h => ?_, fun i v h => ?_⟩
  · exact Cel.drew ((Cel.box w vs h rfl).below (belowA _ _))
  · exact Cel.drew (Cel.box _ us h (by simp))
theorem LessB.below {w0 w w' : World} {vs us : Array Value} (h : LessB w0 vs us w) (hb : Below w.heap.size w w') : LessB w0 vs us w' :=
  ⟨h.1.trans (hb.mono h.1.size), Nat.le_trans h.2.1 hb.size, fun i v e => (h.2.2.1 i v e).below hb, fun i v e => (h.2.2.2 i v e).below hb⟩
theorem LessB.step {w0 w w' : World} {vs us : Array Value} (h : LessB w0 vs us w) (hb : Below (w0.heap.size + 1 + 1) w w') : LessB w0 vs us w' := by
  have hc : ∀ {p : Addr} {v : Value}, p.block < w0.heap.size + 1 + 1 → Cel w p v → Cel w' p v := fun hp hcl => ⟨(hb.cell hp).trans hcl.1, (hb.frozen hp).trans hcl.2.1, Nat.lt_of_lt_of_le hcl.2.2 hb.size⟩
  exact ⟨h.1.trans (hb.mono (by omega)), Nat.le_trans h.2.1 hb.size, fun i v e => hc (by show w0.heap.size < _; omega) (h.2.2.1 i v e), fun i v e => hc (by show w0.heap.size + 1 < _; omega) (h.2.2.2 i v e)⟩
/-- numbers of the caller -/
def NumsV (w : World) (vs : List Value) : Prop := ∀ v, v ∈ vs → Num w v (mval w v) 30
theorem NumsV.snoc {w : World} {vs : List Value} {v : Value} {x : Nat} (h : NumsV w vs) (hv : Num w v x 30) : NumsV w (vs ++ [v]) := by
  intro u hu
  rcases List.mem_append.1 hu with h1 | h1
  · exact h u h1
  · simp at h1; subst h1; rw [mval_num hv]; exact hv
theorem OwnV.mono {T : TypeId} {B B' n c : Nat} {w : World} {A : Option Addr} {vs : List Value} (h : OwnV T B w A n c vs) (hB : B' ≤ B) : OwnV T B' w A n c vs := by
  refine ⟨h.1, ?_⟩
  rcases h.2 with h2 | ⟨g, cap, cur, hv, hg, r⟩
  · exact .inl h2
  · exact .inr ⟨g, cap, cur, hv, by omega, r⟩
end Go.Proofs.YtamfhmmcnlollaaGreat
namespace Go.Proofs.YtamfhmmcnlollaaGreat
open Go.RowKit
set_option linter.unusedVariables false
end Go.Proofs.YtamfhmmcnlollaaGreat
namespace Go.Proofs.YtamfhmmcnlollaaGreat
open Go.RowKit
set_option linter.unusedVariables false
end Go.Proofs.YtamfhmmcnlollaaGreat
namespace Go.Proofs.YtamfhmmcnlollaaGreat
open Go.RowKit
set_option linter.unusedVariables false
end Go.Proofs.YtamfhmmcnlollaaGreat
namespace Go.Proofs.YtamfhmmcnlollaaGreat
open Go.RowKit
set_option linter.unusedVariables false

/-- block b holds cells of the type T -/
def BoxT (T : TypeId) (b : Nat) (w : World) : Prop := ∃ vs z, w.heap[b]? = some (.cells vs T z)
theorem BoxT.lt {T : TypeId} {b : Nat} {w : World} (h : BoxT T b w) : b < w.heap.size := by
  obtain ⟨vs, z, h⟩ := h
  exact (Array.getElem?_eq_some_iff.1 h).1
theorem BoxT.set {T : TypeId} {b : Nat} {w : World} {p : Addr} {u : Value} (h : BoxT T b w) : BoxT T b (w.setCell p u) := by
  obtain ⟨vs, z, h⟩ := h
  unfold BoxT World.setCell
  rw [Array.getElem?_modify]
  split
  · rw [h]; exact ⟨_, _, rfl⟩
  · exact ⟨_, _, h⟩
theorem Cel.at {w : World} {p : Addr} {v : Value} (h : Cel w p v) : At w p v := ⟨h.1, h.2.2⟩
/-- a variable's new memory -/
def FBox (B : Nat) (T : TypeId) (vs : Array Value) (v : Value) (w : World) : Prop := ∃ b, v = .pointer (some ⟨b, 0, none⟩) ∧ B ≤ b ∧ w.heap[b]? = some (.cells vs T (0, 0))
theorem FBox.grow {B : Nat} {T : TypeId} {vs : Array Value} {v : Value} {w w' : World} (h : FBox B T vs v w) (hR : Grow none w w') : FBox B T vs v w' := by
  obtain ⟨b, e, hB, hh⟩ := h
  obtain ⟨_, _, _, _, h5⟩ := hR
  exact ⟨b, e, hB, (h5 b (Array.getElem?_eq_some_iff.1 hh).1 (by simp)).trans hh⟩
theorem At.growB {w : World} {p : Addr} {v : Value} (h : At w p v) : ∀ w', KB w.heap.size w.drew w' → w'.cell? p = some v := fun w' g => (g.cell (p := p) h.2 h.2).trans h.1
section
variable {P : Program} {l : List Oper} {Q : Exit → Act → World → Prop} {R R1 : World → World → Prop} {G : Nat → Value → World → Prop}
end
/-- all but two blocks stay -/
def KE (b1 b2 : Nat) (w w' : World) : Prop := (w'.os = w.os ∧ w'.tape = w.tape ∧ w'.output = w.output) ∧ w.heap.size ≤ w'.heap.size ∧ ∀ i, i ≠ b1 → i ≠ b2 → i < w.heap.size → w'.heap[i]? = w.heap[i]?
theorem KE.refl (b1 b2 : Nat) (w : World) : KE b1 b2 w w := ⟨⟨rfl, rfl, rfl⟩, Nat.le_refl _, fun _ _ _ _ => rfl⟩
theorem KE.trans (b1 b2 : Nat) (a b c : World) (h : KE b1 b2 a b) (k : KE b1 b2 b c) : KE b1 b2 a c :=
  ⟨⟨k.1.1.trans h.1.1, k.1.2.1.trans h.1.2.1, k.1.2.2.trans h.1.2.2⟩, Nat.le_trans h.2.1 k.2.1, fun i h1 h2 hl => (k.2.2 i h1 h2 (Nat.lt_of_lt_of_le hl h.2.1)).trans (h.2.2 i h1 h2 hl)⟩
theorem KE.of_grow (b1 b2 : Nat) (a b : World) (h : Grow none a b) : KE b1 b2 a b := by
  obtain ⟨h1, h2, h3, h4, h5⟩ := h
  exact ⟨⟨h1, h2, h3⟩, h4, fun i _ _ hl => h5 i hl (by simp)⟩
section
variable {P : Program} {l : List Oper} {Q : Exit → Act → World → Prop} {R1 : World → World → Prop} {G : Nat → Value → World → Prop} {b1 b2 : Nat}
end
theorem KB.below {B : Nat} {w w' : World} (h : KB B w w') (hB : w.heap.size ≤ B) : Below w.heap.size w w' :=
  ⟨h.1.1, h.1.2.1, h.1.2.2, h.2.1, fun i hi => h.2.2 i (Nat.lt_of_lt_of_le hi hB) hi⟩
end Go.Proofs.YtamfhmmcnlollaaGreat
namespace Go.Proofs.YtamfhmmcnlollaaGreat
open Go.RowKit
set_option linter.unusedVariables false
end Go.Proofs.YtamfhmmcnlollaaGreat
namespace Go.Proofs.YtamfhmmcnlollaaGreat
open Go.RowKit
set_option linter.unusedVariables false
end Go.Proofs.YtamfhmmcnlollaaGreat
namespace Go.Proofs.YtamfhmmcnlollaaGreat
open Go.RowKit
set_option linter.unusedVariables false
end Go.Proofs.YtamfhmmcnlollaaGreat
