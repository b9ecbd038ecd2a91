/-
  surdlaw05.wanted.
-/
import Derived.Test.YtamfhmmcnlollaaGreatGcdAs
namespace Go.Proofs.YtamfhmmcnlollaaGreat
open Go.RowKit
set_option linter.unusedVariables false

/-- headers and what they read as -/
def AllR (w : World) : List (Sh × List Nat) → Prop
  | [] => True
  | p :: l => Rd .u64 w p.1.1 p.1.2.1 p.1.2.2 p.2 ∧ AllR w l
theorem AllR.rda {w : World} : ∀ {l : List (Sh × List Nat)}, AllR w l → ∀ (i : Nat) (s : Sh), (l.map (·.1))[i]? = some s → Rd .u64 w s.1 s.2.1 s.2.2 ((l.map (·.2)).getD i [])
  | [], _ => by intro i s hi; simp at hi
  | p :: l, ⟨h1, h2⟩ => by
    intro i s hi
    rcases i with _ | i
    · simp at hi; subst hi; simpa using h1
    · have := h2.rda i s (by simpa using hi)
      simpa using this
theorem AllR.below {w w' : World} (hb : Below w.heap.size w w') : ∀ {l : List (Sh × List Nat)}, AllR w l → AllR w' l
  | [], _ => trivial
  | _ :: _, ⟨h1, h2⟩ => ⟨h1.below hb, h2.below hb⟩
theorem Rd.set_slice {w : World} {p : Addr} {A B : Option Addr} {n c m d : Nat} {xs : List Nat} (h : Rd .u64 w A n c xs) (hp : w.cell? p = some (.slice B m d)) (u : Value) : Rd .u64 (w.setCell p u) A n c xs := by
  refine ⟨h.1, fun hn => ?_⟩
  obtain ⟨b, off, e, hb, hc⟩ := h.2 hn
  refine ⟨b, off, e, by simpa [World.setCell] using hb, fun i hi => ?_⟩
  have hne : p ≠ (⟨b, off + i, none⟩ : Addr) := by
    intro e2
    have h1 := hc i hi
    rw [← e2, hp] at h1
    cases h1
  rw [World.cell?_setCell_other _ _ _ _ hne]
  exact hc i hi
theorem AllR.set {w : World} {p : Addr} {B : Option Addr} {m d : Nat} (hp : w.cell? p = some (.slice B m d)) (u : Value) : ∀ {l : List (Sh × List Nat)}, AllR w l → AllR (w.setCell p u) l
  | [], _ => trivial
  | _ :: _, ⟨h1, h2⟩ => ⟨Rd.set_slice h1 hp u, AllR.set hp u h2⟩
def GWs (w : World) (X : List (List Nat)) (ns : List Int) (e : Ending) (w' : World) : Prop :=
  ∃ (A : Option Addr) (q : Nat) (ss : List Sh) (An : Option Addr) (qn : Nat), e = .returned (.agg #[.slice A 14 q, .slice An 9 qn]) ∧ (RowV 23 w.heap.size w' A 14 q (ss.map shv) ∧ (∀ (i : Nat) (s : Sh), ss[i]? = some s → Rd .u64 w' s.1 s.2.1 s.2.2 (X.getD i []))) ∧ RowV 3 w.heap.size w' An 9 qn (ns.map (Value.int .i64)) ∧ Below w.heap.size w w'
set_option maxHeartbeats 8000000 in
set_option maxRecDepth 100000 in
theorem wanted_any {vA vB vK : Value} {A3 A4 : Option Addr} {n3 c3 n4 c4 a b k vx vy : Nat} {N eri erc err cnt ert : Int} {ng exr : Bool} {rs ms xi xc yc xr xt : List Nat} {w : World} (hA : Num w vA a 30) (hB : Num w vB b 30) (hK : Num w vK k 30) (h3 : Nums w A3 n3 c3 rs (List.replicate n3 30)) (h4 : Nums w A4 n4 c4 ms (List.replicate n4 30)) (hn3 : n3 ≤ 20) (hn4 : n4 ≤ 20)
    (HE : ∀ x' y' n', ExtOk a b x' y' n' → x' = vx ∧ y' = vy ∧ n' = ng)
    (CI : ∀ (w : World) (v u : Value), Num w v a 30 → Num w u b 30 → Calls Tryz.prog 41 #[v, u] w (GIx w xi eri 30))
    (CC : ∀ (w : World) (A A' : Option Addr) (c d : Nat), Nums w A n3 c rs (List.replicate n3 30) → Nums w A' n4 d ms (List.replicate n4 30) → Calls Tryz.prog 42 #[.slice A n3 c, .slice A' n4 d] w (GC3 w xc yc erc 1203))
    (CR : ∀ (w : World) (v : Value), Num w v a 30 → Calls Tryz.prog 44 #[v, .int .i64 N] w (GRx w xr exr err 30))
    (CT : ∀ (w : World) (v u : Value), Num w v a 30 → Num w u k 30 → Calls Tryz.prog 45 #[v, u] w (GCx w xt cnt ert 30)) :
    Calls Tryz.prog 9 #[vA, vB, vK, .slice A3 n3 c3, .slice A4 n4 c4, .int .i64 N] w (GWs w (XVs a b rs vx vy xi xc yc xr xt) (NVs a b ng eri erc exr err cnt ert)) := by
  have HA := Lib.hid hA
  have HB := Lib.hid hB
  have HK := Lib.hid hK
  have HL := Lib.hid h3
  have HM := Lib.hid h4
  have KE := Lib.hid HE
  have KI := Lib.hid CI
  have KC := Lib.hid CC
  have KR := Lib.hid CR
  have KT := Lib.hid CT
  have hsL : lsum (List.replicate n3 30) ≤ 600 := by rw [lsum_replicate]; omega
  obtain ⟨pA, nA, cA, _, rfl, _⟩ := id hA
  obtain ⟨pB, nB, cB, _, rfl, _⟩ := id hB
  obtain ⟨pK, nK, cK, _, rfl, _⟩ := id hK
  clear hA hB hK h3 h4 HE CI CC CR CT
  go_enter Tryz.func9, Tryz.ntmps9
  have S1 : Hid (w.heap.size + 2 ≤ ((World.alloc (World.alloc w (.cells #[.slice none 0 0, .slice none 0 0] 35)) (.cells #[.slice none 0 0, .slice none 0 0] 35))).heap.size) := by show _ ≤ _; simp
  go_wp2_with fail
  refine (extended5_any ((HA.out.below ((Below.refl _ _).alloc (Nat.le_refl _) (.cells #[.slice none 0 0, .slice none 0 0] 35))).below ((Below.refl _ _).alloc (Nat.le_refl _) (.cells #[.slice none 0 0, .slice none 0 0] 35))) ((HB.out.below ((Below.refl _ _).alloc (Nat.le_refl _) (.cells #[.slice none 0 0, .slice none 0 0] 35))).below ((Below.refl _ _).alloc (Nat.le_refl _) (.cells #[.slice none 0 0, .slice none 0 0] 35))) (by omega) (by omega)).mono ?_
  rintro e v1 ⟨x', y', n', A_g, n_g, c_g, A_x, n_x, c_x, A_y, n_y, c_y, hE, rfl, ⟨o_g, o_x, o_y⟩, hv1, l_g, l_x, l_y⟩
  obtain ⟨rfl, rfl, rfl⟩ := KE.out _ _ _ hE
  have O1 := Lib.hid (And.intro o_g.rd (And.intro o_x.rd o_y.rd))
  clear hE o_g o_x o_y
  have S2 : Hid (w.heap.size + 2 ≤ ((World.alloc (World.alloc v1 (.cells #[.bool false, .slice A_x n_x c_x] 60)) (.cells #[.bool n', .slice A_y n_y c_y] 60))).heap.size) := Nat.le_trans S1.out ((bt (bt hv1 ((Below.refl _ _).alloc (Nat.le_refl _) (.cells #[.bool false, .slice A_x n_x c_x] 60))) ((Below.refl _ _).alloc (Nat.le_refl _) (.cells #[.bool n', .slice A_y n_y c_y] 60)))).size
  go_wp2_with fail
  refine (KI.out _ _ _ (((((HA.out.below ((Below.refl _ _).alloc (Nat.le_refl _) (.cells #[.slice none 0 0, .slice none 0 0] 35))).below ((Below.refl _ _).alloc (Nat.le_refl _) (.cells #[.slice none 0 0, .slice none 0 0] 35))).below hv1).below ((Below.refl _ _).alloc (Nat.le_refl _) (.cells #[.bool false, .slice A_x n_x c_x] 60))).below ((Below.refl _ _).alloc (Nat.le_refl _) (.cells #[.bool n', .slice A_y n_y c_y] 60))) (((((HB.out.below ((Below.refl _ _).alloc (Nat.le_refl _) (.cells #[.slice none 0 0, .slice none 0 0] 35))).below ((Below.refl _ _).alloc (Nat.le_refl _) (.cells #[.slice none 0 0, .slice none 0 0] 35))).below hv1).below ((Below.refl _ _).alloc (Nat.le_refl _) (.cells #[.bool false, .slice A_x n_x c_x] 60))).below ((Below.refl _ _).alloc (Nat.le_refl _) (.cells #[.bool n', .slice A_y n_y c_y] 60)))).mono ?_
  rintro e v2 ⟨A_i, n_i, c_i, rfl, hv2, l_i, o_i⟩
  have O2 := Lib.hid o_i
  clear o_i
  have S3 : Hid (w.heap.size + 2 ≤ (v2).heap.size) := Nat.le_trans S1.out ((bt (bt (bt hv1 ((Below.refl _ _).alloc (Nat.le_refl _) (.cells #[.bool false, .slice A_x n_x c_x] 60))) ((Below.refl _ _).alloc (Nat.le_refl _) (.cells #[.bool n', .slice A_y n_y c_y] 60))) hv2)).size
  go_wp2_with fail
  refine (KC.out _ _ _ _ _ ((((((HL.out.below ((Below.refl _ _).alloc (Nat.le_refl _) (.cells #[.slice none 0 0, .slice none 0 0] 35))).below ((Below.refl _ _).alloc (Nat.le_refl _) (.cells #[.slice none 0 0, .slice none 0 0] 35))).below hv1).below ((Below.refl _ _).alloc (Nat.le_refl _) (.cells #[.bool false, .slice A_x n_x c_x] 60))).below ((Below.refl _ _).alloc (Nat.le_refl _) (.cells #[.bool n', .slice A_y n_y c_y] 60))).below hv2) ((((((HM.out.below ((Below.refl _ _).alloc (Nat.le_refl _) (.cells #[.slice none 0 0, .slice none 0 0] 35))).below ((Below.refl _ _).alloc (Nat.le_refl _) (.cells #[.slice none 0 0, .slice none 0 0] 35))).below hv1).below ((Below.refl _ _).alloc (Nat.le_refl _) (.cells #[.bool false, .slice A_x n_x c_x] 60))).below ((Below.refl _ _).alloc (Nat.le_refl _) (.cells #[.bool n', .slice A_y n_y c_y] 60))).below hv2)).mono ?_
  rintro e v3 ⟨A_c, n_c, c_c, A_d, n_d, c_d, rfl, hv3, l_c, l_d, o_c, o_d⟩
  have O3 := Lib.hid (And.intro o_c o_d)
  clear o_c o_d
  have S4 : Hid (w.heap.size + 2 ≤ (v3).heap.size) := Nat.le_trans S1.out ((bt (bt (bt (bt hv1 ((Below.refl _ _).alloc (Nat.le_refl _) (.cells #[.bool false, .slice A_x n_x c_x] 60))) ((Below.refl _ _).alloc (Nat.le_refl _) (.cells #[.bool n', .slice A_y n_y c_y] 60))) hv2) hv3)).size
  go_wp2_with fail
  refine (sqrt5_any (((((((HA.out.below ((Below.refl _ _).alloc (Nat.le_refl _) (.cells #[.slice none 0 0, .slice none 0 0] 35))).below ((Below.refl _ _).alloc (Nat.le_refl _) (.cells #[.slice none 0 0, .slice none 0 0] 35))).below hv1).below ((Below.refl _ _).alloc (Nat.le_refl _) (.cells #[.bool false, .slice A_x n_x c_x] 60))).below ((Below.refl _ _).alloc (Nat.le_refl _) (.cells #[.bool n', .slice A_y n_y c_y] 60))).below hv2).below hv3) (by omega) (by omega)).mono ?_
  rintro e v4 ⟨A_q, n_q, c_q, A_w, n_w, c_w, rfl, o_q, o_w, hv4, l_q, l_w⟩
  have O4 := Lib.hid (And.intro o_q.rd o_w.rd)
  clear o_q o_w
  have S5 : Hid (w.heap.size + 2 ≤ (v4).heap.size) := Nat.le_trans S1.out ((bt (bt (bt (bt (bt hv1 ((Below.refl _ _).alloc (Nat.le_refl _) (.cells #[.bool false, .slice A_x n_x c_x] 60))) ((Below.refl _ _).alloc (Nat.le_refl _) (.cells #[.bool n', .slice A_y n_y c_y] 60))) hv2) hv3) hv4)).size
  go_wp2_with fail
  refine (KR.out _ _ ((((((((HA.out.below ((Below.refl _ _).alloc (Nat.le_refl _) (.cells #[.slice none 0 0, .slice none 0 0] 35))).below ((Below.refl _ _).alloc (Nat.le_refl _) (.cells #[.slice none 0 0, .slice none 0 0] 35))).below hv1).below ((Below.refl _ _).alloc (Nat.le_refl _) (.cells #[.bool false, .slice A_x n_x c_x] 60))).below ((Below.refl _ _).alloc (Nat.le_refl _) (.cells #[.bool n', .slice A_y n_y c_y] 60))).below hv2).below hv3).below hv4)).mono ?_
  rintro e v5 ⟨A_r, n_r, c_r, rfl, hv5, l_r, o_r⟩
  have O5 := Lib.hid o_r
  clear o_r
  have S6 : Hid (w.heap.size + 2 ≤ (v5).heap.size) := Nat.le_trans S1.out ((bt (bt (bt (bt (bt (bt hv1 ((Below.refl _ _).alloc (Nat.le_refl _) (.cells #[.bool false, .slice A_x n_x c_x] 60))) ((Below.refl _ _).alloc (Nat.le_refl _) (.cells #[.bool n', .slice A_y n_y c_y] 60))) hv2) hv3) hv4) hv5)).size
  go_wp2_with fail
  refine (KT.out _ _ _ (((((((((HA.out.below ((Below.refl _ _).alloc (Nat.le_refl _) (.cells #[.slice none 0 0, .slice none 0 0] 35))).below ((Below.refl _ _).alloc (Nat.le_refl _) (.cells #[.slice none 0 0, .slice none 0 0] 35))).below hv1).below ((Below.refl _ _).alloc (Nat.le_refl _) (.cells #[.bool false, .slice A_x n_x c_x] 60))).below ((Below.refl _ _).alloc (Nat.le_refl _) (.cells #[.bool n', .slice A_y n_y c_y] 60))).below hv2).below hv3).below hv4).below hv5) (((((((((HK.out.below ((Below.refl _ _).alloc (Nat.le_refl _) (.cells #[.slice none 0 0, .slice none 0 0] 35))).below ((Below.refl _ _).alloc (Nat.le_refl _) (.cells #[.slice none 0 0, .slice none 0 0] 35))).below hv1).below ((Below.refl _ _).alloc (Nat.le_refl _) (.cells #[.bool false, .slice A_x n_x c_x] 60))).below ((Below.refl _ _).alloc (Nat.le_refl _) (.cells #[.bool n', .slice A_y n_y c_y] 60))).below hv2).below hv3).below hv4).below hv5)).mono ?_
  rintro e v6 ⟨A_t, n_t, c_t, rfl, hv6, l_t, o_t⟩
  have O6 := Lib.hid o_t
  clear o_t
  have S7 : Hid (w.heap.size + 2 ≤ (v6).heap.size) := Nat.le_trans S1.out ((bt (bt (bt (bt (bt (bt (bt hv1 ((Below.refl _ _).alloc (Nat.le_refl _) (.cells #[.bool false, .slice A_x n_x c_x] 60))) ((Below.refl _ _).alloc (Nat.le_refl _) (.cells #[.bool n', .slice A_y n_y c_y] 60))) hv2) hv3) hv4) hv5) hv6)).size
  go_wp2_with fail
  have e_s0 := (((((((((Cel.box (i := 0) (v := .slice none 0 0) (t := 35) (b := w.heap.size + 1) (World.alloc w (.cells #[.slice none 0 0, .slice none 0 0] 35)) #[.slice none 0 0, .slice none 0 0] rfl (by simp)).below hv1).below ((Below.refl _ _).alloc (Nat.le_refl _) (.cells #[.bool false, .slice A_x n_x c_x] 60))).below ((Below.refl _ _).alloc (Nat.le_refl _) (.cells #[.bool n', .slice A_y n_y c_y] 60))).below hv2).below hv3).below hv4).below hv5).below hv6).1
  have g_s0 := At.grow (p := _) ⟨(((((((((Cel.box (i := 0) (v := .slice none 0 0) (t := 35) (b := w.heap.size + 1) (World.alloc w (.cells #[.slice none 0 0, .slice none 0 0] 35)) #[.slice none 0 0, .slice none 0 0] rfl (by simp)).below hv1).below ((Below.refl _ _).alloc (Nat.le_refl _) (.cells #[.bool false, .slice A_x n_x c_x] 60))).below ((Below.refl _ _).alloc (Nat.le_refl _) (.cells #[.bool n', .slice A_y n_y c_y] 60))).below hv2).below hv3).below hv4).below hv5).below hv6).1, (((((((((Cel.box (i := 0) (v := .slice none 0 0) (t := 35) (b := w.heap.size + 1) (World.alloc w (.cells #[.slice none 0 0, .slice none 0 0] 35)) #[.slice none 0 0, .slice none 0 0] rfl (by simp)).below hv1).below ((Below.refl _ _).alloc (Nat.le_refl _) (.cells #[.bool false, .slice A_x n_x c_x] 60))).below ((Below.refl _ _).alloc (Nat.le_refl _) (.cells #[.bool n', .slice A_y n_y c_y] 60))).below hv2).below hv3).below hv4).below hv5).below hv6).2.2⟩
  have e_u1 := (((((((Cel.box (i := 1) (v := .slice A_x n_x c_x) (t := 60) (b := v1.heap.size) v1 #[.bool false, .slice A_x n_x c_x] rfl (by simp)).below ((Below.refl _ _).alloc (Nat.le_refl _) (.cells #[.bool n', .slice A_y n_y c_y] 60))).below hv2).below hv3).below hv4).below hv5).below hv6).1
  have g_u1 := At.grow (p := _) ⟨(((((((Cel.box (i := 1) (v := .slice A_x n_x c_x) (t := 60) (b := v1.heap.size) v1 #[.bool false, .slice A_x n_x c_x] rfl (by simp)).below ((Below.refl _ _).alloc (Nat.le_refl _) (.cells #[.bool n', .slice A_y n_y c_y] 60))).below hv2).below hv3).below hv4).below hv5).below hv6).1, (((((((Cel.box (i := 1) (v := .slice A_x n_x c_x) (t := 60) (b := v1.heap.size) v1 #[.bool false, .slice A_x n_x c_x] rfl (by simp)).below ((Below.refl _ _).alloc (Nat.le_refl _) (.cells #[.bool n', .slice A_y n_y c_y] 60))).below hv2).below hv3).below hv4).below hv5).below hv6).2.2⟩
  have e_y1 := ((((((Cel.box (i := 1) (v := .slice A_y n_y c_y) (t := 60) (b := v1.heap.size + 1) (World.alloc v1 (.cells #[.bool false, .slice A_x n_x c_x] 60)) #[.bool n', .slice A_y n_y c_y] rfl (by simp)).below hv2).below hv3).below hv4).below hv5).below hv6).1
  have g_y1 := At.grow (p := _) ⟨((((((Cel.box (i := 1) (v := .slice A_y n_y c_y) (t := 60) (b := v1.heap.size + 1) (World.alloc v1 (.cells #[.bool false, .slice A_x n_x c_x] 60)) #[.bool n', .slice A_y n_y c_y] rfl (by simp)).below hv2).below hv3).below hv4).below hv5).below hv6).1, ((((((Cel.box (i := 1) (v := .slice A_y n_y c_y) (t := 60) (b := v1.heap.size + 1) (World.alloc v1 (.cells #[.bool false, .slice A_x n_x c_x] 60)) #[.bool n', .slice A_y n_y c_y] rfl (by simp)).below hv2).below hv3).below hv4).below hv5).below hv6).2.2⟩
  refine wp_region_stores [(0, 0), (0, 1), (0, 2), (0, 3), (0, 5), (0, 7), (0, 8), (0, 10), (0, 12), (0, 13), (0, 14), (0, 15), (0, 16), (0, 17), (0, 18), (0, 19), (0, 20), (0, 21), (0, 22), (0, 23), (1, 4), (1, 6), (1, 9), (1, 11), (1, 24), (1, 25), (0, 26), (2, 27)] (by kernel_rfl) (by kernel_rfl) ?_
  repeat (first | (refine sord_pas (by rfl) (fun K hK => ?_); go_simp; refine hK _ _ (fun w' hw' => (by first | (go_simp; done) | (go_simp; intro hh; cases hh))) ?_; clear hK K) | (refine sord_pasT (by rfl) (fun K hK => ?_); go_simp; refine hK _ _ (fun w' hw' => (by first | (go_simp; done) | (go_simp; intro hh; cases hh))) ?_; clear hK K))
  (refine sord_call (by rfl) (fun K hK => ?_); go_simp; refine hK _ _ ?_; clear hK K)
  refine (gcd5_any (((((((((((HA.out.below ((Below.refl _ _).alloc (Nat.le_refl _) (.cells #[.slice none 0 0, .slice none 0 0] 35))).below ((Below.refl _ _).alloc (Nat.le_refl _) (.cells #[.slice none 0 0, .slice none 0 0] 35))).below hv1).below ((Below.refl _ _).alloc (Nat.le_refl _) (.cells #[.bool false, .slice A_x n_x c_x] 60))).below ((Below.refl _ _).alloc (Nat.le_refl _) (.cells #[.bool n', .slice A_y n_y c_y] 60))).below hv2).below hv3).below hv4).below hv5).below hv6).below (Below.refl _ _).drew) (((((((((((HB.out.below ((Below.refl _ _).alloc (Nat.le_refl _) (.cells #[.slice none 0 0, .slice none 0 0] 35))).below ((Below.refl _ _).alloc (Nat.le_refl _) (.cells #[.slice none 0 0, .slice none 0 0] 35))).below hv1).below ((Below.refl _ _).alloc (Nat.le_refl _) (.cells #[.bool false, .slice A_x n_x c_x] 60))).below ((Below.refl _ _).alloc (Nat.le_refl _) (.cells #[.bool n', .slice A_y n_y c_y] 60))).below hv2).below hv3).below hv4).below hv5).below hv6).below (Below.refl _ _).drew) (by omega : 30 ≤ 30) (by omega) (by omega) (by omega)).mono ?_
  rintro e w1 ⟨A_p1, n_p1, c_p1, rfl, o_p1, hb1, l_p1⟩
  refine ⟨_, rfl, Grow.of_below hb1, ?_⟩
  (refine sord_norm (fun K hK => ?_); go_simp; refine hK _ ?_; clear hK K)
  have S8 : Hid (w.heap.size + 2 ≤ (w1).heap.size) := Nat.le_trans S7.out ((bt (Below.refl _ _).drew hb1)).size
  (refine sord_call (by rfl) (fun K hK => ?_); go_simp; refine hK _ _ ?_; clear hK K)
  refine (all5_any ((((((((((((HL.out.below ((Below.refl _ _).alloc (Nat.le_refl _) (.cells #[.slice none 0 0, .slice none 0 0] 35))).below ((Below.refl _ _).alloc (Nat.le_refl _) (.cells #[.slice none 0 0, .slice none 0 0] 35))).below hv1).below ((Below.refl _ _).alloc (Nat.le_refl _) (.cells #[.bool false, .slice A_x n_x c_x] 60))).below ((Below.refl _ _).alloc (Nat.le_refl _) (.cells #[.bool n', .slice A_y n_y c_y] 60))).below hv2).below hv3).below hv4).below hv5).below hv6).below (Below.refl _ _).drew).below hb1) (by omega) (nth_replicate_le _ _) (by omega) (by omega)).mono ?_
  rintro e w2 ⟨A_p2, n_p2, c_p2, rfl, o_p2, hb2, l_p2⟩
  refine ⟨_, rfl, Grow.of_below hb2, ?_⟩
  (refine sord_norm (fun K hK => ?_); go_simp; refine hK _ ?_; clear hK K)
  have S9 : Hid (w.heap.size + 2 ≤ (w2).heap.size) := Nat.le_trans S7.out ((bt (bt (Below.refl _ _).drew hb1) hb2)).size
  (refine sord_call (by rfl) (fun K hK => ?_); go_simp; refine hK _ _ ?_; clear hK K)
  refine (lcm5_any (((((((((((((HA.out.below ((Below.refl _ _).alloc (Nat.le_refl _) (.cells #[.slice none 0 0, .slice none 0 0] 35))).below ((Below.refl _ _).alloc (Nat.le_refl _) (.cells #[.slice none 0 0, .slice none 0 0] 35))).below hv1).below ((Below.refl _ _).alloc (Nat.le_refl _) (.cells #[.bool false, .slice A_x n_x c_x] 60))).below ((Below.refl _ _).alloc (Nat.le_refl _) (.cells #[.bool n', .slice A_y n_y c_y] 60))).below hv2).below hv3).below hv4).below hv5).below hv6).below (Below.refl _ _).drew).below hb1).below hb2) (((((((((((((HB.out.below ((Below.refl _ _).alloc (Nat.le_refl _) (.cells #[.slice none 0 0, .slice none 0 0] 35))).below ((Below.refl _ _).alloc (Nat.le_refl _) (.cells #[.slice none 0 0, .slice none 0 0] 35))).below hv1).below ((Below.refl _ _).alloc (Nat.le_refl _) (.cells #[.bool false, .slice A_x n_x c_x] 60))).below ((Below.refl _ _).alloc (Nat.le_refl _) (.cells #[.bool n', .slice A_y n_y c_y] 60))).below hv2).below hv3).below hv4).below hv5).below hv6).below (Below.refl _ _).drew).below hb1).below hb2) (by omega) (by omega) (by omega) (by omega)).mono ?_
  rintro e w3 ⟨A_p3, n_p3, c_p3, rfl, o_p3, hb3, l_p3⟩
  refine ⟨_, rfl, Grow.of_below hb3, ?_⟩
  (refine sord_norm (fun K hK => ?_); go_simp; refine hK _ ?_; clear hK K)
  have S10 : Hid (w.heap.size + 2 ≤ (w3).heap.size) := Nat.le_trans S7.out ((bt (bt (bt (Below.refl _ _).drew hb1) hb2) hb3)).size
  (refine sord_call (by rfl) (fun K hK => ?_); go_simp; refine hK _ _ ?_; clear hK K)
  refine (alllcm5_any ((((((((((((((HL.out.below ((Below.refl _ _).alloc (Nat.le_refl _) (.cells #[.slice none 0 0, .slice none 0 0] 35))).below ((Below.refl _ _).alloc (Nat.le_refl _) (.cells #[.slice none 0 0, .slice none 0 0] 35))).below hv1).below ((Below.refl _ _).alloc (Nat.le_refl _) (.cells #[.bool false, .slice A_x n_x c_x] 60))).below ((Below.refl _ _).alloc (Nat.le_refl _) (.cells #[.bool n', .slice A_y n_y c_y] 60))).below hv2).below hv3).below hv4).below hv5).below hv6).below (Below.refl _ _).drew).below hb1).below hb2).below hb3) (by omega) (fun i hi => by rw [nth_replicate hi]; omega) (by omega)).mono ?_
  rintro e w4 ⟨A_p4, n_p4, c_p4, rfl, o_p4, hb4, l_p4⟩
  refine ⟨_, rfl, Grow.of_below hb4, ?_⟩
  (refine sord_norm (fun K hK => ?_); go_simp; refine hK _ ?_; clear hK K)
  have S11 : Hid (w.heap.size + 2 ≤ (w4).heap.size) := Nat.le_trans S7.out ((bt (bt (bt (bt (Below.refl _ _).drew hb1) hb2) hb3) hb4)).size
  have HO : Hid (AllR w4 [((A_p1, n_p1, c_p1), dg W (Nat.gcd a b)), ((A_p2, n_p2, c_p2), dg W (gall rs)), ((A_p3, n_p3, c_p3), dg W (Nat.lcm a b)), ((A_p4, n_p4, c_p4), dg W (llcm rs)), ((A_g, n_g, c_g), dg W (Nat.gcd a b)), ((A_x, n_x, c_x), dg W x'), ((A_y, n_y, c_y), dg W y'), ((A_i, n_i, c_i), xi), ((A_c, n_c, c_c), xc), ((A_d, n_d, c_d), yc), ((A_q, n_q, c_q), dg W (nroot 2 a)), ((A_w, n_w, c_w), dg W (a - nroot 2 a * nroot 2 a)), ((A_r, n_r, c_r), xr), ((A_t, n_t, c_t), xt)]) := ⟨((((o_p1.below hb2).below hb3).below hb4)).rd, (((o_p2.below hb3).below hb4)).rd, ((o_p3.below hb4)).rd, (o_p4).rd, O1.out.1.below (bt (bt (bt (bt (bt (bt (bt (bt (bt (bt (bt ((Below.refl _ _).alloc (Nat.le_refl _) (.cells #[.bool false, .slice A_x n_x c_x] 60)) ((Below.refl _ _).alloc (Nat.le_refl _) (.cells #[.bool n', .slice A_y n_y c_y] 60))) hv2) hv3) hv4) hv5) hv6) (Below.refl _ _).drew) hb1) hb2) hb3) hb4), O1.out.2.1.below (bt (bt (bt (bt (bt (bt (bt (bt (bt (bt (bt ((Below.refl _ _).alloc (Nat.le_refl _) (.cells #[.bool false, .slice A_x n_x c_x] 60)) ((Below.refl _ _).alloc (Nat.le_refl _) (.cells #[.bool n', .slice A_y n_y c_y] 60))) hv2) hv3) hv4) hv5) hv6) (Below.refl _ _).drew) hb1) hb2) hb3) hb4), O1.out.2.2.below (bt (bt (bt (bt (bt (bt (bt (bt (bt (bt (bt ((Below.refl _ _).alloc (Nat.le_refl _) (.cells #[.bool false, .slice A_x n_x c_x] 60)) ((Below.refl _ _).alloc (Nat.le_refl _) (.cells #[.bool n', .slice A_y n_y c_y] 60))) hv2) hv3) hv4) hv5) hv6) (Below.refl _ _).drew) hb1) hb2) hb3) hb4), O2.out.below (bt (bt (bt (bt (bt (bt (bt (bt hv3 hv4) hv5) hv6) (Below.refl _ _).drew) hb1) hb2) hb3) hb4), O3.out.1.below (bt (bt (bt (bt (bt (bt (bt hv4 hv5) hv6) (Below.refl _ _).drew) hb1) hb2) hb3) hb4), O3.out.2.below (bt (bt (bt (bt (bt (bt (bt hv4 hv5) hv6) (Below.refl _ _).drew) hb1) hb2) hb3) hb4), O4.out.1.below (bt (bt (bt (bt (bt (bt hv5 hv6) (Below.refl _ _).drew) hb1) hb2) hb3) hb4), O4.out.2.below (bt (bt (bt (bt (bt (bt hv5 hv6) (Below.refl _ _).drew) hb1) hb2) hb3) hb4), O5.out.below (bt (bt (bt (bt (bt hv6 (Below.refl _ _).drew) hb1) hb2) hb3) hb4), O6.out.below (bt (bt (bt (bt (Below.refl _ _).drew hb1) hb2) hb3) hb4), trivial⟩
  clear O1 O2 O3 O4 O5 O6
  repeat (first | (refine sord_pas (by rfl) (fun K hK => ?_); go_simp; refine hK _ _ (fun w' hw' => (by first | (go_simp; done) | (go_simp; intro hh; cases hh))) ?_; clear hK K) | (refine sord_pasT (by rfl) (fun K hK => ?_); go_simp; refine hK _ _ (fun w' hw' => (by first | (go_simp; done) | (go_simp; intro hh; cases hh))) ?_; clear hK K))
  (refine sord_act (by rfl) (fun K hK => ?_); go_simp)
  refine hK _ _ ⟨Grow.of_below (belowA _ _), ?_⟩
  clear hK K
  (refine sord_norm (fun K hK => ?_); go_simp; refine hK _ ?_; clear hK K)
  refine sord_appK0 (.tmp 70) (.tmp 93) (by rfl) rfl rfl elNatK rfl rfl (RowK.lit (k := 1) (T := 23) (B := 0) w4 14 [.slice A_p1 n_p1 c_p1, .slice A_p2 n_p2 c_p2, .slice A_p3 n_p3 c_p3, .slice A_p4 n_p4 c_p4, .slice A_g n_g c_g, .slice A_x n_x c_x, .slice A_y n_y c_y, .slice A_i n_i c_i, .slice A_c n_c c_c, .slice A_d n_d c_d, .slice A_q n_q c_q, .slice A_w n_w c_w, .slice A_r n_r c_r, .slice A_t n_t c_t] rfl (by simp) (by omega) (Nat.zero_le _)).rd (by simp [Value.oneCell']) (by omega) (by omega) ?_
  intro A1 q1 w5 hr1 hb5
  have hb6 := bt (belowA w4 (.cells #[.slice A_p1 n_p1 c_p1, .slice A_p2 n_p2 c_p2, .slice A_p3 n_p3 c_p3, .slice A_p4 n_p4 c_p4, .slice A_g n_g c_g, .slice A_x n_x c_x, .slice A_y n_y c_y, .slice A_i n_i c_i, .slice A_c n_c c_c, .slice A_d n_d c_d, .slice A_q n_q c_q, .slice A_w n_w c_w, .slice A_r n_r c_r, .slice A_t n_t c_t] 23)) hb5
  repeat (first | (refine sord_pas (by rfl) (fun K hK => ?_); go_simp; refine hK _ _ (fun w' hw' => (by first | (go_simp; done) | (go_simp; intro hh; cases hh))) ?_; clear hK K) | (refine sord_pasT (by rfl) (fun K hK => ?_); go_simp; refine hK _ _ (fun w' hw' => (by first | (go_simp; done) | (go_simp; intro hh; cases hh))) ?_; clear hK K))
  have HS0 := Lib.hid (((((((((((((((Cel.box (i := 0) (v := .slice none 0 0) (t := 35) (b := w.heap.size + 1) (World.alloc w (.cells #[.slice none 0 0, .slice none 0 0] 35)) #[.slice none 0 0, .slice none 0 0] rfl (by simp)).below hv1).below ((Below.refl _ _).alloc (Nat.le_refl _) (.cells #[.bool false, .slice A_x n_x c_x] 60))).below ((Below.refl _ _).alloc (Nat.le_refl _) (.cells #[.bool n', .slice A_y n_y c_y] 60))).below hv2).below hv3).below hv4).below hv5).below hv6).below (Below.refl _ _).drew).below hb1).below hb2).below hb3).below hb4).below hb6)
  have HZ := Lib.hid (And.intro ((HO.out.below hb6).set (p := ⟨w.heap.size + 1, 0, none⟩) (((((((((((((((Cel.box (i := 0) (v := .slice none 0 0) (t := 35) (b := w.heap.size + 1) (World.alloc w (.cells #[.slice none 0 0, .slice none 0 0] 35)) #[.slice none 0 0, .slice none 0 0] rfl (by simp)).below hv1).below ((Below.refl _ _).alloc (Nat.le_refl _) (.cells #[.bool false, .slice A_x n_x c_x] 60))).below ((Below.refl _ _).alloc (Nat.le_refl _) (.cells #[.bool n', .slice A_y n_y c_y] 60))).below hv2).below hv3).below hv4).below hv5).below hv6).below (Below.refl _ _).drew).below hb1).below hb2).below hb3).below hb4).below hb6).1 (.slice A1 14 q1)) (And.intro (RowV.set_low (p := ⟨w.heap.size + 1, 0, none⟩) (hr1.mono (B' := w.heap.size + 2) (Nat.le_trans S11.out (belowA w4 _).size)) (by show w.heap.size + 1 < _; omega) (.slice A1 14 q1)) (And.intro (Below.setCell (bt (bt (bt (bt (bt (bt (bt (bt (bt (bt (bt (bt (bt (bt (bt ((Below.refl _ _).alloc (Nat.le_refl _) (.cells #[.slice none 0 0, .slice none 0 0] 35)) ((Below.refl _ _).alloc (Nat.le_refl _) (.cells #[.slice none 0 0, .slice none 0 0] 35))) hv1) ((Below.refl _ _).alloc (Nat.le_refl _) (.cells #[.bool false, .slice A_x n_x c_x] 60))) ((Below.refl _ _).alloc (Nat.le_refl _) (.cells #[.bool n', .slice A_y n_y c_y] 60))) hv2) hv3) hv4) hv5) hv6) (Below.refl _ _).drew) hb1) hb2) hb3) hb4) hb6) (p := ⟨w.heap.size + 1, 0, none⟩) (by show w.heap.size ≤ w.heap.size + 1; omega) (.slice A1 14 q1)) (And.intro (Cel.put (u := .slice A1 14 q1) (((((((((((((((Cel.box (i := 0) (v := .slice none 0 0) (t := 35) (b := w.heap.size + 1) (World.alloc w (.cells #[.slice none 0 0, .slice none 0 0] 35)) #[.slice none 0 0, .slice none 0 0] rfl (by simp)).below hv1).below ((Below.refl _ _).alloc (Nat.le_refl _) (.cells #[.bool false, .slice A_x n_x c_x] 60))).below ((Below.refl _ _).alloc (Nat.le_refl _) (.cells #[.bool n', .slice A_y n_y c_y] 60))).below hv2).below hv3).below hv4).below hv5).below hv6).below (Below.refl _ _).drew).below hb1).below hb2).below hb3).below hb4).below hb6)) (And.intro (Cel.set (u := .slice A1 14 q1) (q := ⟨w.heap.size + 1, 0, none⟩) (((((((((((((((Cel.box (i := 1) (v := .slice none 0 0) (t := 35) (b := w.heap.size + 1) (World.alloc w (.cells #[.slice none 0 0, .slice none 0 0] 35)) #[.slice none 0 0, .slice none 0 0] rfl (by simp)).below hv1).below ((Below.refl _ _).alloc (Nat.le_refl _) (.cells #[.bool false, .slice A_x n_x c_x] 60))).below ((Below.refl _ _).alloc (Nat.le_refl _) (.cells #[.bool n', .slice A_y n_y c_y] 60))).below hv2).below hv3).below hv4).below hv5).below hv6).below (Below.refl _ _).drew).below hb1).below hb2).below hb3).below hb4).below hb6) (by intro e; injection e with _ e2; omega)) (And.intro (Cel.set (u := .slice A1 14 q1) (q := ⟨w.heap.size + 1, 0, none⟩) ((((((((((((((((Cel.box (i := 0) (v := .slice none 0 0) (t := 35) (b := w.heap.size) w #[.slice none 0 0, .slice none 0 0] rfl (by simp)).below ((Below.refl _ _).alloc (Nat.le_refl _) (.cells #[.slice none 0 0, .slice none 0 0] 35))).below hv1).below ((Below.refl _ _).alloc (Nat.le_refl _) (.cells #[.bool false, .slice A_x n_x c_x] 60))).below ((Below.refl _ _).alloc (Nat.le_refl _) (.cells #[.bool n', .slice A_y n_y c_y] 60))).below hv2).below hv3).below hv4).below hv5).below hv6).below (Below.refl _ _).drew).below hb1).below hb2).below hb3).below hb4).below hb6) (by intro e; injection e with e2; omega)) (And.intro (Cel.set (u := .slice A1 14 q1) (q := ⟨w.heap.size + 1, 0, none⟩) ((((((((((((((((Cel.box (i := 1) (v := .slice none 0 0) (t := 35) (b := w.heap.size) w #[.slice none 0 0, .slice none 0 0] rfl (by simp)).below ((Below.refl _ _).alloc (Nat.le_refl _) (.cells #[.slice none 0 0, .slice none 0 0] 35))).below hv1).below ((Below.refl _ _).alloc (Nat.le_refl _) (.cells #[.bool false, .slice A_x n_x c_x] 60))).below ((Below.refl _ _).alloc (Nat.le_refl _) (.cells #[.bool n', .slice A_y n_y c_y] 60))).below hv2).below hv3).below hv4).below hv5).below hv6).below (Below.refl _ _).drew).below hb1).below hb2).below hb3).below hb4).below hb6) (by intro e; injection e with e2; omega)) (And.intro (Cel.set (u := .slice A1 14 q1) (q := ⟨w.heap.size + 1, 0, none⟩) (((((((((((((Cel.box (i := 0) (v := .bool false) (t := 60) (b := v1.heap.size) v1 #[.bool false, .slice A_x n_x c_x] rfl (by simp)).below ((Below.refl _ _).alloc (Nat.le_refl _) (.cells #[.bool n', .slice A_y n_y c_y] 60))).below hv2).below hv3).below hv4).below hv5).below hv6).below (Below.refl _ _).drew).below hb1).below hb2).below hb3).below hb4).below hb6) (by intro e; injection e with e2; have := S1.out; have := hv1.size; omega)) (Cel.set (u := .slice A1 14 q1) (q := ⟨w.heap.size + 1, 0, none⟩) ((((((((((((Cel.box (i := 0) (v := .bool n') (t := 60) (b := v1.heap.size + 1) (World.alloc v1 (.cells #[.bool false, .slice A_x n_x c_x] 60)) #[.bool n', .slice A_y n_y c_y] rfl (by simp)).below hv2).below hv3).below hv4).below hv5).below hv6).below (Below.refl _ _).drew).below hb1).below hb2).below hb3).below hb4).below hb6) (by intro e; injection e with e2; have := S1.out; have := hv1.size; omega))))))))))
  obtain ⟨z0a, z0b, z0c⟩ := HS0.out
  (refine sord_store (by rfl) (fun K hK => ?_); go_simp; refine hK _ _ ?_; clear hK K)
  refine sord_nil ?_
  clear z0a z0b z0c HS0 HO
  generalize w5.setCell ⟨w.heap.size + 1, 0, none⟩ (.slice A1 14 q1) = wz at HZ ⊢
  clear hr1 hb5 hb6
  go_wp2_with fail
  have e_s1 := (HZ.out.2.2.2.2.1 /-Cel.-/).1
  have g_s1 := At.grow (p := _) ⟨(HZ.out.2.2.2.2.1 /-Cel.-/).1, (HZ.out.2.2.2.2.1 /-Cel.-/).2.2⟩
  have e_u0 := (HZ.out.2.2.2.2.2.2.2.1 /-Cel.-/).1
  have g_u0 := At.grow (p := _) ⟨(HZ.out.2.2.2.2.2.2.2.1 /-Cel.-/).1, (HZ.out.2.2.2.2.2.2.2.1 /-Cel.-/).2.2⟩
  have e_y0 := (HZ.out.2.2.2.2.2.2.2.2 /-Cel.-/).1
  have g_y0 := At.grow (p := _) ⟨(HZ.out.2.2.2.2.2.2.2.2 /-Cel.-/).1, (HZ.out.2.2.2.2.2.2.2.2 /-Cel.-/).2.2⟩
  refine wp_region_stores [(0, 0), (0, 1), (0, 2), (0, 3), (0, 6), (0, 7), (0, 9), (0, 10), (0, 12), (0, 13), (0, 14), (0, 16), (0, 17), (0, 18), (1, 4), (1, 5), (1, 8), (1, 11), (1, 15), (1, 19), (1, 20), (0, 21), (2, 22)] (by kernel_rfl) (by kernel_rfl) ?_
  repeat (first | (refine sord_pas (by rfl) (fun K hK => ?_); go_simp; refine hK _ _ (fun w' hw' => (by first | (go_simp; done) | (go_simp; intro hh; cases hh))) ?_; clear hK K) | (refine sord_pasT (by rfl) (fun K hK => ?_); go_simp; refine hK _ _ (fun w' hw' => (by first | (go_simp; done) | (go_simp; intro hh; cases hh))) ?_; clear hK K))
  (refine sord_call (by rfl) (fun K hK => ?_); go_simp; refine hK _ _ ?_; clear hK K)
  refine (coprime5_any ((HA.out.below HZ.out.2.2.1).below (Below.refl _ _).drew) ((HB.out.below HZ.out.2.2.1).below (Below.refl _ _).drew) (by omega : 30 ≤ 30) (by omega) (by omega) (by omega)).mono ?_
  rintro e w5 ⟨rfl, hb5⟩
  refine ⟨_, rfl, Grow.of_below hb5, ?_⟩
  (refine sord_norm (fun K hK => ?_); go_simp; refine hK _ ?_; clear hK K)
  (refine sord_call (by rfl) (fun K hK => ?_); go_simp; refine hK _ _ ?_; clear hK K)
  refine bit05_any.mono ?_
  rintro e w' ⟨rfl, rfl⟩
  refine ⟨_, rfl, Grow.refl _ _, ?_⟩
  (refine sord_norm (fun K hK => ?_); go_simp; refine hK _ ?_; clear hK K)
  (refine sord_call (by rfl) (fun K hK => ?_); go_simp; refine hK _ _ ?_; clear hK K)
  refine bit05_any.mono ?_
  rintro e w' ⟨rfl, rfl⟩
  refine ⟨_, rfl, Grow.refl _ _, ?_⟩
  (refine sord_norm (fun K hK => ?_); go_simp; refine hK _ ?_; clear hK K)
  (refine sord_call (by rfl) (fun K hK => ?_); go_simp; refine hK _ _ ?_; clear hK K)
  refine bit05_any.mono ?_
  rintro e w' ⟨rfl, rfl⟩
  refine ⟨_, rfl, Grow.refl _ _, ?_⟩
  (refine sord_norm (fun K hK => ?_); go_simp; refine hK _ ?_; clear hK K)
  (refine sord_call (by rfl) (fun K hK => ?_); go_simp; refine hK _ _ ?_; clear hK K)
  refine bit05_any.mono ?_
  rintro e w' ⟨rfl, rfl⟩
  refine ⟨_, rfl, Grow.refl _ _, ?_⟩
  (refine sord_norm (fun K hK => ?_); go_simp; refine hK _ ?_; clear hK K)
  repeat (first | (refine sord_pas (by rfl) (fun K hK => ?_); go_simp; refine hK _ _ (fun w' hw' => (by first | (go_simp; done) | (go_simp; intro hh; cases hh))) ?_; clear hK K) | (refine sord_pasT (by rfl) (fun K hK => ?_); go_simp; refine hK _ _ (fun w' hw' => (by first | (go_simp; done) | (go_simp; intro hh; cases hh))) ?_; clear hK K))
  have hbZ := (bt (Below.refl _ _).drew hb5)
  obtain ⟨NV, HNV⟩ : ∃ NV : List Value, Hid (NV = (NVs a b n' eri erc exr err cnt ert).map (Value.int .i64)) := ⟨_, rfl⟩
  (refine sord_act (by rfl) (fun K hK => ?_); go_simp)
  refine hK _ _ ⟨Grow.of_below (belowA _ _), ?_⟩
  clear hK K
  (refine sord_norm (fun K hK => ?_); go_simp; refine hK _ ?_; clear hK K)
  refine sord_appK0 (.tmp 97) (.tmp 115) (by rfl) rfl rfl elIntK rfl rfl (RowK.lit (k := 1) (T := 3) (B := 0) w5 9 ((NVs a b n' eri erc exr err cnt ert).map (Value.int .i64)) rfl rfl (by omega) (Nat.zero_le _)).rd (by simp [NVs, Value.oneCell']) (by omega) (by omega) ?_
  intro A2 q2 w6 hr2 hb6
  have hb7 := bt (belowA w5 (.cells ((NVs a b n' eri erc exr err cnt ert).map (Value.int .i64)).toArray 3)) hb6
  repeat (first | (refine sord_pas (by rfl) (fun K hK => ?_); go_simp; refine hK _ _ (fun w' hw' => (by first | (go_simp; done) | (go_simp; intro hh; cases hh))) ?_; clear hK K) | (refine sord_pasT (by rfl) (fun K hK => ?_); go_simp; refine hK _ _ (fun w' hw' => (by first | (go_simp; done) | (go_simp; intro hh; cases hh))) ?_; clear hK K))
  have HS0 := Lib.hid ((((HZ.out.2.2.2.2.1 /-Cel.-/).below (Below.refl _ _).drew).below hb5).below hb7)
  have HY := Lib.hid (And.intro ((HZ.out.1.below (bt (bt (Below.refl _ _).drew hb5) hb7)).set (p := ⟨w.heap.size + 1, 1, none⟩) ((((HZ.out.2.2.2.2.1 /-Cel.-/).below (Below.refl _ _).drew).below hb5).below hb7).1 (.slice A2 9 q2)) (And.intro ((HZ.out.2.1.below (bt (bt (Below.refl _ _).drew hb5) hb7)).set_low (p := ⟨w.heap.size + 1, 1, none⟩) (by show w.heap.size + 1 < _; omega) (.slice A2 9 q2)) (And.intro (RowV.set_low (p := ⟨w.heap.size + 1, 1, none⟩) (hr2.mono (B' := w.heap.size + 2) (Nat.le_trans (Nat.le_trans (Nat.succ_le_of_lt HZ.out.2.2.2.2.1.2.2) hbZ.size) (belowA w5 _).size)) (by show w.heap.size + 1 < _; omega) (.slice A2 9 q2)) (And.intro (Below.setCell (bt (bt (bt HZ.out.2.2.1 (Below.refl _ _).drew) hb5) hb7) (p := ⟨w.heap.size + 1, 1, none⟩) (by show w.heap.size ≤ w.heap.size + 1; omega) (.slice A2 9 q2)) (And.intro (Cel.put (u := .slice A2 9 q2) ((((HZ.out.2.2.2.2.1 /-Cel.-/).below (Below.refl _ _).drew).below hb5).below hb7)) (And.intro (Cel.set (u := .slice A2 9 q2) (q := ⟨w.heap.size + 1, 1, none⟩) ((((HZ.out.2.2.2.1 /-Cel.-/).below (Below.refl _ _).drew).below hb5).below hb7) (by intro e; injection e with _ e2; omega)) (And.intro (Cel.set (u := .slice A2 9 q2) (q := ⟨w.heap.size + 1, 1, none⟩) (HZ.out.2.2.2.2.2.1.below (bt (bt (Below.refl _ _).drew hb5) hb7)) (by intro e; injection e with e2; omega)) (Cel.set (u := .slice A2 9 q2) (q := ⟨w.heap.size + 1, 1, none⟩) (HZ.out.2.2.2.2.2.2.1.below (bt (bt (Below.refl _ _).drew hb5) hb7)) (by intro e; injection e with e2; omega)))))))))
  obtain ⟨z0a, z0b, z0c⟩ := HS0.out
  (refine sord_store (by rfl) (fun K hK => ?_); go_simp; refine hK _ _ ?_; clear hK K)
  refine sord_nil ?_
  clear z0a z0b z0c HS0 HZ
  generalize w6.setCell ⟨w.heap.size + 1, 1, none⟩ (.slice A2 9 q2) = wy at HY ⊢
  clear hr2 hb6 hb7
  obtain ⟨y1a, y1b, y1c⟩ := HY.out.2.2.2.2.1
  obtain ⟨y0a, y0b, y0c⟩ := HY.out.2.2.2.2.2.1
  obtain ⟨x0a, x0b, x0c⟩ := HY.out.2.2.2.2.2.2.1
  obtain ⟨x1a, x1b, x1c⟩ := HY.out.2.2.2.2.2.2.2
  go_wp2
  have r0a := (Cel.set (u := .slice A2 9 q2) (q := ⟨w.heap.size, 1, none⟩) (Cel.put (u := .slice A1 14 q1) HY.out.2.2.2.2.2.2.1) (by intro e; injection e with _ e2; omega)).1
  have r1a := (Cel.put (u := .slice A2 9 q2) (Cel.set (u := .slice A1 14 q1) (q := ⟨w.heap.size, 0, none⟩) HY.out.2.2.2.2.2.2.2 (by intro e; injection e with _ e2; omega))).1
  refine bodyPost_ret (v := .agg #[.slice A1 14 q1, .slice A2 9 q2]) (by simp [results, Tryz.results9, go_sem, r0a, r1a]) rfl ?_
  have hAG := (HY.out.1.set (p := ⟨w.heap.size, 0, none⟩) HY.out.2.2.2.2.2.2.1.1 (.slice A1 14 q1)).set (p := ⟨w.heap.size, 1, none⟩) (Cel.set (u := .slice A1 14 q1) (q := ⟨w.heap.size, 0, none⟩) HY.out.2.2.2.2.2.2.2 (by intro e; injection e with _ e2; omega)).1 (.slice A2 9 q2)
  exact ⟨A1, q1, _, A2, q2, rfl, ⟨((HY.out.2.1.set_low (p := ⟨w.heap.size, 0, none⟩) (by show w.heap.size < _; omega) (.slice A1 14 q1)).set_low (p := ⟨w.heap.size, 1, none⟩) (by show w.heap.size < _; omega) (.slice A2 9 q2)).mono (by omega), hAG.rda⟩, ((HY.out.2.2.1.set_low (p := ⟨w.heap.size, 0, none⟩) (by show w.heap.size < _; omega) (.slice A1 14 q1)).set_low (p := ⟨w.heap.size, 1, none⟩) (by show w.heap.size < _; omega) (.slice A2 9 q2)).mono (by omega), (HY.out.2.2.2.1.setCell (p := ⟨w.heap.size, 0, none⟩) (Nat.le_refl _) (.slice A1 14 q1)).setCell (p := ⟨w.heap.size, 1, none⟩) (Nat.le_refl _) (.slice A2 9 q2)⟩
end Go.Proofs.YtamfhmmcnlollaaGreat
