/-
  Walks: gcd.All; surdtop.bezout.
-/
import Derived.Test.YtnmfmdilhepmjaaGcd
import Derived.Test.YtnmfmdilhepmjaaLists
import Derived.Test.YtnmfmdilhepmjaaTopA
namespace Go.Proofs.Ytnmfmdilhepmjaa
open Go.RowKit
set_option linter.unusedVariables false

theorem At.boxb {i : Nat} {v : Value} {t : TypeId} {b : Nat} (w : World) (vs : Array Value) (h : vs[i]? = some v) (hb : b = w.heap.size) : At (w.alloc (.cells vs t)) ⟨b, i, none⟩ v := by
  subst hb; exact At.box w vs h
/-- the common divisor of all -/
def gall (xs : List Nat) : Nat := xs.foldl Nat.gcd 0
theorem gall_take {xs : List Nat} {k : Nat} (h : k < xs.length) : gall (xs.take (k + 1)) = Nat.gcd (gall (xs.take k)) (nth xs k) := by
  rw [List.take_succ_eq_append_getElem h, gall, List.foldl_append, nth_lt h]; rfl
set_option maxHeartbeats 1000000 in
theorem all_any {A : Option Addr} {n c : Nat} {xs ls : List Nat} {w : World} (h : Nums w A n c xs ls) (hn : n ≤ 1048576) (hl : lsum ls ≤ 268435456) : Calls Try.prog 28 #[.slice A n c] w (GN w (gall xs) (lsum ls)) := by
  have H := Lib.hid h
  clear h
  go_enter Try.func28, Try.ntmps28
  go_wp2
  go_loopw [3, 8] (fun sv i wr => ∃ (k : Nat) (B : Option Addr) (q e : Nat), Hid (Own .u64 26 w.heap.size wr B q e (dg W (gall (xs.take k))) ∧ Below w.heap.size w wr) ∧ k ≤ n ∧ q ≤ lsum (ls.take k) ∧ sv = .slice B q e ∧ i = .int .i64 k) (fun _ i _ => n - (intOf i).toNat)
  case atStart => exact ⟨0, none, 0, 0, ⟨by simpa [gall] using Own.nildg, Below.refl _ _⟩, Nat.zero_le _, Nat.zero_le _, rfl, rfl⟩
  case round =>
    obtain ⟨k, B, q, e, hI, hk, hq, rfl, rfl⟩ := hrel
    by_cases hlt : k < n
    · obtain ⟨b, off, v, ea, hb, hca, hv⟩ := (H.out.below hI.out.2).at hlt
      subst ea
      have HV := Lib.hid hv
      have HT := Lib.hid (gall_take (xs := xs) (k := k) (by rw [H.out.1.1]; exact hlt))
      have hl2 : lsum (ls.take (k + 1)) = lsum (ls.take k) + nth ls k := lsum_take_succ (by rw [H.out.1.2.1]; exact hlt)
      have HL2 := Lib.hid hl2
      have hl3 := lsum_take_le ls (k + 1)
      have b1 : q + nth ls k ≤ 268435456 := by omega
      have b2 : q + nth ls k ≤ lsum (ls.take (k + 1)) := by omega
      have HB2 := Lib.hid b2
      obtain ⟨a1, a2, a3, _, rfl, _⟩ := id hv
      clear hv hl2 hl3 b2
      go_wp2_with fail
      refine (gcd_any (hI.out.1.num (Nat.le_refl _)) HV.out (by omega) (by omega)).mono ?_
      rintro e w3 ⟨A3, n3, c3, rfl, ho3, hb3, hl3⟩
      go_wp2
      go_roundw
      case rel =>
        refine ⟨k + 1, A3, _, c3, ⟨?_, bt hI.out.2 hb3⟩, by omega, by have := HB2.out; omega, rfl, by go_num⟩
        rw [HT.out]
        exact ho3.mono hI.out.2.size
      case measure => simp [intOf]; omega
    · obtain rfl : k = n := by omega
      go_wp2
      go_ret
      have ho := hI.out.1
      rw [List.take_of_length_le (by rw [H.out.1.1]; exact Nat.le_refl _)] at ho
      rw [List.take_of_length_le (by rw [H.out.1.2.1]; exact Nat.le_refl _)] at hq
      exact ⟨_, _, _, rfl, ho, hI.out.2, hq⟩

theorem Num.empty {t : TypeId} {b : Nat} (w : World) (hb : b = w.heap.size) : Num (w.alloc (.cells #[] t)) (.slice (some ⟨b, 0, none⟩) 0 0) 0 0 := ⟨_, _, _, [], rfl, Rd.nil, All.nil, rfl, Nat.le_refl _⟩
set_option maxHeartbeats 4000000 in
theorem bezout_neg {v1 v3 v5 : Value} {A2 A4 : Option Addr} {n2 c2 n4 c4 : Nat} {a x b y g L : Nat} {w : World} (h1 : Num w v1 a L) (h2 : Num w (.slice A2 n2 c2) x L) (h3 : Num w v3 b L) (h4 : Num w (.slice A4 n4 c4) y L) (h5 : Num w v5 g L) (hE : x * a = g + y * b) (hL : L ≤ 33554432) :
    Calls Try.prog 30 #[v1, .agg #[.bool false, .slice A2 n2 c2], v3, .agg #[.bool true, .slice A4 n4 c4], v5] w (Keeps (.bool true) w) := by
  have HE : Hid (cmpN (0 + a * x) (g + b * y) = 0) := by
    show _ = _
    have e : (0 + a * x) = (g + b * y) := by first | (rw [Nat.zero_add, Nat.mul_comm a, hE, Nat.mul_comm b]; done) | (rw [Nat.zero_add, hE, Nat.mul_comm a, Nat.mul_comm b]; done)
    rw [e, cmpN, if_neg (Nat.lt_irrefl _), if_neg (Nat.lt_irrefl _)]
  have H1 := Lib.hid h1
  have H2 := Lib.hid h2
  have H3 := Lib.hid h3
  have H4 := Lib.hid h4
  have H5 := Lib.hid h5
  obtain ⟨_, _, _, _, rfl, _⟩ := id h1
  obtain ⟨_, _, _, _, rfl, _⟩ := id h3
  obtain ⟨_, _, _, _, rfl, _⟩ := id h5
  clear h1 h2 h3 h4 h5 hE
  go_enter Try.func30, Try.ntmps30
  go_wp2_with fail
  refine (copyN_any (((H5.out.below ((Below.refl _ _).alloc (Nat.le_refl _) _)).below ((Below.refl _ _).alloc (Nat.le_refl _) _)).below ((Below.refl _ _).alloc (Nat.le_refl _) _)) (by omega)).mono ?_
  rintro e w1 ⟨A_m, n_m, c_m, xs_m, rfl, o_m, a_m, v_m, hb1, l_m⟩
  have V_m := Lib.hid v_m
  clear v_m
  have e0 := ((((At.boxb (i := 0) (t := 50) w #[.bool false, .slice A2 n2 c2] rfl rfl).below ((Below.refl _ _).alloc (Nat.le_refl _) _)).below ((Below.refl _ _).alloc (Nat.le_refl _) _)).below hb1).1
  go_wp2_with fail
  clear e0
  go_wp2_with fail
  have e_f1 := ((((At.boxb (i := 1) (t := 50) w #[.bool false, .slice A2 n2 c2] rfl rfl).below ((Below.refl _ _).alloc (Nat.le_refl _) _)).below ((Below.refl _ _).alloc (Nat.le_refl _) _)).below hb1).1
  have g_f1 := At.grow ((((At.boxb (i := 1) (t := 50) w #[.bool false, .slice A2 n2 c2] rfl rfl).below ((Below.refl _ _).alloc (Nat.le_refl _) _)).below ((Below.refl _ _).alloc (Nat.le_refl _) _)).below hb1)
  refine wp_region_grow none [(true, 0), (true, 1), (true, 3), (true, 4), (false, 2), (false, 5), (false, 6), (true, 7)] (by kernel_rfl) (by kernel_rfl) ?_
  repeat (refine ord_pas (by rfl) (fun K hK => ?_); go_simp; refine hK _ _ (fun w' hw' => (by first | (go_simp; done) | (go_simp; intro hh; cases hh))) ?_; clear hK K)
  (refine ord_call (by rfl) (fun K hK => ?_); go_simp; refine hK _ _ ?_; clear hK K)
  refine (copyN_any (((((H1.out.below ((Below.refl _ _).alloc (Nat.le_refl _) _)).below ((Below.refl _ _).alloc (Nat.le_refl _) _)).below ((Below.refl _ _).alloc (Nat.le_refl _) _)).below hb1).below (Below.refl _ _).drew) (by omega)).mono ?_
  rintro e w2 ⟨A_aa, n_aa, c_aa, xs_aa, rfl, o_aa, a_aa, v_aa, hb2, l_aa⟩
  have V_aa := Lib.hid v_aa
  clear v_aa
  refine ⟨_, rfl, Grow.of_below hb2, ?_⟩
  (refine ord_norm (fun K hK => ?_); go_simp; refine hK _ ?_; clear hK K)
  (refine ord_call (by rfl) (fun K hK => ?_); go_simp; refine hK _ _ ?_; clear hK K)
  refine (mul_any (o_aa.numv a_aa V_aa.out l_aa) ((((((H2.out.below ((Below.refl _ _).alloc (Nat.le_refl _) _)).below ((Below.refl _ _).alloc (Nat.le_refl _) _)).below ((Below.refl _ _).alloc (Nat.le_refl _) _)).below hb1).below (Below.refl _ _).drew).below hb2) (by omega) (by omega)).mono ?_
  rintro e w3 ⟨A_p, n_p, c_p, rfl, o_p, hb3, l_p⟩
  refine ⟨_, rfl, Grow.of_below hb3, ?_⟩
  (refine ord_norm (fun K hK => ?_); go_simp; refine hK _ ?_; clear hK K)
  (refine ord_call (by rfl) (fun K hK => ?_); go_simp; refine hK _ _ ?_; clear hK K)
  refine (nadd_any (((((Num.empty (t := 26) (b := w.heap.size + 2) _ (by simp)).below hb1).below (Below.refl _ _).drew).below hb2).below hb3) (o_p.num l_p) (by omega) (by omega)).mono ?_
  rintro e w4 ⟨A_s, n_s, c_s, rfl, o_s, hb4, l_s⟩
  refine ⟨_, rfl, Grow.of_below hb4, ?_⟩
  (refine ord_norm (fun K hK => ?_); go_simp; refine hK _ ?_; clear hK K)
  repeat (refine ord_pas (by rfl) (fun K hK => ?_); go_simp; refine hK _ _ (fun w' hw' => (by first | (go_simp; done) | (go_simp; intro hh; cases hh))) ?_; clear hK K)
  refine ord_nil ?_
  clear g_f1 e_f1
  have e1 := (((((((At.boxb (i := 0) (t := 50) (b := w.heap.size + 1) _ #[.bool true, .slice A4 n4 c4] rfl (by simp)).below ((Below.refl _ _).alloc (Nat.le_refl _) _)).below hb1).below (Below.refl _ _).drew).below hb2).below hb3).below hb4).1
  go_wp2_with fail
  clear e1
  go_wp2_with fail
  have e_g1 := (((((((At.boxb (i := 1) (t := 50) (b := w.heap.size + 1) _ #[.bool true, .slice A4 n4 c4] rfl (by simp)).below ((Below.refl _ _).alloc (Nat.le_refl _) _)).below hb1).below (Below.refl _ _).drew).below hb2).below hb3).below hb4).1
  have g_g1 := At.grow (((((((At.boxb (i := 1) (t := 50) (b := w.heap.size + 1) _ #[.bool true, .slice A4 n4 c4] rfl (by simp)).below ((Below.refl _ _).alloc (Nat.le_refl _) _)).below hb1).below (Below.refl _ _).drew).below hb2).below hb3).below hb4)
  refine wp_region_grow none [(true, 0), (true, 1), (true, 3), (true, 4), (false, 2), (false, 5), (false, 6), (true, 7)] (by kernel_rfl) (by kernel_rfl) ?_
  repeat (refine ord_pas (by rfl) (fun K hK => ?_); go_simp; refine hK _ _ (fun w' hw' => (by first | (go_simp; done) | (go_simp; intro hh; cases hh))) ?_; clear hK K)
  (refine ord_call (by rfl) (fun K hK => ?_); go_simp; refine hK _ _ ?_; clear hK K)
  refine (copyN_any (((((((((H3.out.below ((Below.refl _ _).alloc (Nat.le_refl _) _)).below ((Below.refl _ _).alloc (Nat.le_refl _) _)).below ((Below.refl _ _).alloc (Nat.le_refl _) _)).below hb1).below (Below.refl _ _).drew).below hb2).below hb3).below hb4).below (Below.refl _ _).drew) (by omega)).mono ?_
  rintro e w5 ⟨A_bb, n_bb, c_bb, xs_bb, rfl, o_bb, a_bb, v_bb, hb5, l_bb⟩
  have V_bb := Lib.hid v_bb
  clear v_bb
  refine ⟨_, rfl, Grow.of_below hb5, ?_⟩
  (refine ord_norm (fun K hK => ?_); go_simp; refine hK _ ?_; clear hK K)
  (refine ord_call (by rfl) (fun K hK => ?_); go_simp; refine hK _ _ ?_; clear hK K)
  refine (mul_any (o_bb.numv a_bb V_bb.out l_bb) ((((((((((H4.out.below ((Below.refl _ _).alloc (Nat.le_refl _) _)).below ((Below.refl _ _).alloc (Nat.le_refl _) _)).below ((Below.refl _ _).alloc (Nat.le_refl _) _)).below hb1).below (Below.refl _ _).drew).below hb2).below hb3).below hb4).below (Below.refl _ _).drew).below hb5) (by omega) (by omega)).mono ?_
  rintro e w6 ⟨A_q, n_q, c_q, rfl, o_q, hb6, l_q⟩
  refine ⟨_, rfl, Grow.of_below hb6, ?_⟩
  (refine ord_norm (fun K hK => ?_); go_simp; refine hK _ ?_; clear hK K)
  (refine ord_call (by rfl) (fun K hK => ?_); go_simp; refine hK _ _ ?_; clear hK K)
  refine (nadd_any ((((((((o_m.numv a_m V_m.out l_m).below (Below.refl _ _).drew).below hb2).below hb3).below hb4).below (Below.refl _ _).drew).below hb5).below hb6) (o_q.num l_q) (by omega) (by omega)).mono ?_
  rintro e w7 ⟨A_r, n_r, c_r, rfl, o_r, hb7, l_r⟩
  refine ⟨_, rfl, Grow.of_below hb7, ?_⟩
  (refine ord_norm (fun K hK => ?_); go_simp; refine hK _ ?_; clear hK K)
  repeat (refine ord_pas (by rfl) (fun K hK => ?_); go_simp; refine hK _ _ (fun w' hw' => (by first | (go_simp; done) | (go_simp; intro hh; cases hh))) ?_; clear hK K)
  refine ord_nil ?_
  clear g_g1 e_g1
  go_wp2_with fail
  have C := Lib.hid (ncmp_any (w := w7) (((((o_s.num l_s).below (Below.refl _ _).drew).below hb5).below hb6).below hb7) (o_r.num l_r) (by omega) (by omega))
  rw [HE.out] at C
  refine C.out.mono ?_
  rintro e w' ⟨rfl, rfl⟩
  go_wp2
  go_ret
  exact ⟨rfl, (bt (bt (bt (bt (bt (bt (bt (bt (bt (bt (bt ((Below.refl _ _).alloc (Nat.le_refl _) _) ((Below.refl _ _).alloc (Nat.le_refl _) _)) ((Below.refl _ _).alloc (Nat.le_refl _) _)) hb1) (Below.refl _ _).drew) hb2) hb3) hb4) (Below.refl _ _).drew) hb5) hb6) hb7)⟩
set_option maxHeartbeats 4000000 in
theorem bezout_pos {v1 v3 v5 : Value} {A2 A4 : Option Addr} {n2 c2 n4 c4 : Nat} {a x b y g L : Nat} {w : World} (h1 : Num w v1 a L) (h2 : Num w (.slice A2 n2 c2) x L) (h3 : Num w v3 b L) (h4 : Num w (.slice A4 n4 c4) y L) (h5 : Num w v5 g L) (hE : g = x * a + y * b) (hL : L ≤ 33554432) :
    Calls Try.prog 30 #[v1, .agg #[.bool false, .slice A2 n2 c2], v3, .agg #[.bool false, .slice A4 n4 c4], v5] w (Keeps (.bool true) w) := by
  have HE : Hid (cmpN (0 + a * x + b * y) g = 0) := by
    show _ = _
    have e : (0 + a * x + b * y) = g := by first | (rw [Nat.zero_add, Nat.mul_comm a, hE, Nat.mul_comm b]; done) | (rw [Nat.zero_add, hE, Nat.mul_comm a, Nat.mul_comm b]; done)
    rw [e, cmpN, if_neg (Nat.lt_irrefl _), if_neg (Nat.lt_irrefl _)]
  have H1 := Lib.hid h1
  have H2 := Lib.hid h2
  have H3 := Lib.hid h3
  have H4 := Lib.hid h4
  have H5 := Lib.hid h5
  obtain ⟨_, _, _, _, rfl, _⟩ := id h1
  obtain ⟨_, _, _, _, rfl, _⟩ := id h3
  obtain ⟨_, _, _, _, rfl, _⟩ := id h5
  clear h1 h2 h3 h4 h5 hE
  go_enter Try.func30, Try.ntmps30
  go_wp2_with fail
  refine (copyN_any (((H5.out.below ((Below.refl _ _).alloc (Nat.le_refl _) _)).below ((Below.refl _ _).alloc (Nat.le_refl _) _)).below ((Below.refl _ _).alloc (Nat.le_refl _) _)) (by omega)).mono ?_
  rintro e w1 ⟨A_m, n_m, c_m, xs_m, rfl, o_m, a_m, v_m, hb1, l_m⟩
  have V_m := Lib.hid v_m
  clear v_m
  have e0 := ((((At.boxb (i := 0) (t := 50) w #[.bool false, .slice A2 n2 c2] rfl rfl).below ((Below.refl _ _).alloc (Nat.le_refl _) _)).below ((Below.refl _ _).alloc (Nat.le_refl _) _)).below hb1).1
  go_wp2_with fail
  clear e0
  go_wp2_with fail
  have e_f1 := ((((At.boxb (i := 1) (t := 50) w #[.bool false, .slice A2 n2 c2] rfl rfl).below ((Below.refl _ _).alloc (Nat.le_refl _) _)).below ((Below.refl _ _).alloc (Nat.le_refl _) _)).below hb1).1
  have g_f1 := At.grow ((((At.boxb (i := 1) (t := 50) w #[.bool false, .slice A2 n2 c2] rfl rfl).below ((Below.refl _ _).alloc (Nat.le_refl _) _)).below ((Below.refl _ _).alloc (Nat.le_refl _) _)).below hb1)
  refine wp_region_grow none [(true, 0), (true, 1), (true, 3), (true, 4), (false, 2), (false, 5), (false, 6), (true, 7)] (by kernel_rfl) (by kernel_rfl) ?_
  repeat (refine ord_pas (by rfl) (fun K hK => ?_); go_simp; refine hK _ _ (fun w' hw' => (by first | (go_simp; done) | (go_simp; intro hh; cases hh))) ?_; clear hK K)
  (refine ord_call (by rfl) (fun K hK => ?_); go_simp; refine hK _ _ ?_; clear hK K)
  refine (copyN_any (((((H1.out.below ((Below.refl _ _).alloc (Nat.le_refl _) _)).below ((Below.refl _ _).alloc (Nat.le_refl _) _)).below ((Below.refl _ _).alloc (Nat.le_refl _) _)).below hb1).below (Below.refl _ _).drew) (by omega)).mono ?_
  rintro e w2 ⟨A_aa, n_aa, c_aa, xs_aa, rfl, o_aa, a_aa, v_aa, hb2, l_aa⟩
  have V_aa := Lib.hid v_aa
  clear v_aa
  refine ⟨_, rfl, Grow.of_below hb2, ?_⟩
  (refine ord_norm (fun K hK => ?_); go_simp; refine hK _ ?_; clear hK K)
  (refine ord_call (by rfl) (fun K hK => ?_); go_simp; refine hK _ _ ?_; clear hK K)
  refine (mul_any (o_aa.numv a_aa V_aa.out l_aa) ((((((H2.out.below ((Below.refl _ _).alloc (Nat.le_refl _) _)).below ((Below.refl _ _).alloc (Nat.le_refl _) _)).below ((Below.refl _ _).alloc (Nat.le_refl _) _)).below hb1).below (Below.refl _ _).drew).below hb2) (by omega) (by omega)).mono ?_
  rintro e w3 ⟨A_p, n_p, c_p, rfl, o_p, hb3, l_p⟩
  refine ⟨_, rfl, Grow.of_below hb3, ?_⟩
  (refine ord_norm (fun K hK => ?_); go_simp; refine hK _ ?_; clear hK K)
  (refine ord_call (by rfl) (fun K hK => ?_); go_simp; refine hK _ _ ?_; clear hK K)
  refine (nadd_any (((((Num.empty (t := 26) (b := w.heap.size + 2) _ (by simp)).below hb1).below (Below.refl _ _).drew).below hb2).below hb3) (o_p.num l_p) (by omega) (by omega)).mono ?_
  rintro e w4 ⟨A_s, n_s, c_s, rfl, o_s, hb4, l_s⟩
  refine ⟨_, rfl, Grow.of_below hb4, ?_⟩
  (refine ord_norm (fun K hK => ?_); go_simp; refine hK _ ?_; clear hK K)
  repeat (refine ord_pas (by rfl) (fun K hK => ?_); go_simp; refine hK _ _ (fun w' hw' => (by first | (go_simp; done) | (go_simp; intro hh; cases hh))) ?_; clear hK K)
  refine ord_nil ?_
  clear g_f1 e_f1
  have e1 := (((((((At.boxb (i := 0) (t := 50) (b := w.heap.size + 1) _ #[.bool false, .slice A4 n4 c4] rfl (by simp)).below ((Below.refl _ _).alloc (Nat.le_refl _) _)).below hb1).below (Below.refl _ _).drew).below hb2).below hb3).below hb4).1
  go_wp2_with fail
  clear e1
  go_wp2_with fail
  have e_g1 := (((((((At.boxb (i := 1) (t := 50) (b := w.heap.size + 1) _ #[.bool false, .slice A4 n4 c4] rfl (by simp)).below ((Below.refl _ _).alloc (Nat.le_refl _) _)).below hb1).below (Below.refl _ _).drew).below hb2).below hb3).below hb4).1
  have g_g1 := At.grow (((((((At.boxb (i := 1) (t := 50) (b := w.heap.size + 1) _ #[.bool false, .slice A4 n4 c4] rfl (by simp)).below ((Below.refl _ _).alloc (Nat.le_refl _) _)).below hb1).below (Below.refl _ _).drew).below hb2).below hb3).below hb4)
  refine wp_region_grow none [(true, 0), (true, 1), (true, 3), (true, 4), (false, 2), (false, 5), (false, 6), (true, 7)] (by kernel_rfl) (by kernel_rfl) ?_
  repeat (refine ord_pas (by rfl) (fun K hK => ?_); go_simp; refine hK _ _ (fun w' hw' => (by first | (go_simp; done) | (go_simp; intro hh; cases hh))) ?_; clear hK K)
  (refine ord_call (by rfl) (fun K hK => ?_); go_simp; refine hK _ _ ?_; clear hK K)
  refine (copyN_any (((((((((H3.out.below ((Below.refl _ _).alloc (Nat.le_refl _) _)).below ((Below.refl _ _).alloc (Nat.le_refl _) _)).below ((Below.refl _ _).alloc (Nat.le_refl _) _)).below hb1).below (Below.refl _ _).drew).below hb2).below hb3).below hb4).below (Below.refl _ _).drew) (by omega)).mono ?_
  rintro e w5 ⟨A_bb, n_bb, c_bb, xs_bb, rfl, o_bb, a_bb, v_bb, hb5, l_bb⟩
  have V_bb := Lib.hid v_bb
  clear v_bb
  refine ⟨_, rfl, Grow.of_below hb5, ?_⟩
  (refine ord_norm (fun K hK => ?_); go_simp; refine hK _ ?_; clear hK K)
  (refine ord_call (by rfl) (fun K hK => ?_); go_simp; refine hK _ _ ?_; clear hK K)
  refine (mul_any (o_bb.numv a_bb V_bb.out l_bb) ((((((((((H4.out.below ((Below.refl _ _).alloc (Nat.le_refl _) _)).below ((Below.refl _ _).alloc (Nat.le_refl _) _)).below ((Below.refl _ _).alloc (Nat.le_refl _) _)).below hb1).below (Below.refl _ _).drew).below hb2).below hb3).below hb4).below (Below.refl _ _).drew).below hb5) (by omega) (by omega)).mono ?_
  rintro e w6 ⟨A_q, n_q, c_q, rfl, o_q, hb6, l_q⟩
  refine ⟨_, rfl, Grow.of_below hb6, ?_⟩
  (refine ord_norm (fun K hK => ?_); go_simp; refine hK _ ?_; clear hK K)
  (refine ord_call (by rfl) (fun K hK => ?_); go_simp; refine hK _ _ ?_; clear hK K)
  refine (nadd_any ((((o_s.num l_s).below (Below.refl _ _).drew).below hb5).below hb6) (o_q.num l_q) (by omega) (by omega)).mono ?_
  rintro e w7 ⟨A_r, n_r, c_r, rfl, o_r, hb7, l_r⟩
  refine ⟨_, rfl, Grow.of_below hb7, ?_⟩
  (refine ord_norm (fun K hK => ?_); go_simp; refine hK _ ?_; clear hK K)
  repeat (refine ord_pas (by rfl) (fun K hK => ?_); go_simp; refine hK _ _ (fun w' hw' => (by first | (go_simp; done) | (go_simp; intro hh; cases hh))) ?_; clear hK K)
  refine ord_nil ?_
  clear g_g1 e_g1
  go_wp2_with fail
  have C := Lib.hid (ncmp_any (w := w7) (o_r.num l_r) (((((((((o_m.numv a_m V_m.out l_m).below (Below.refl _ _).drew).below hb2).below hb3).below hb4).below (Below.refl _ _).drew).below hb5).below hb6).below hb7) (by omega) (by omega))
  rw [HE.out] at C
  refine C.out.mono ?_
  rintro e w' ⟨rfl, rfl⟩
  go_wp2
  go_ret
  exact ⟨rfl, (bt (bt (bt (bt (bt (bt (bt (bt (bt (bt (bt ((Below.refl _ _).alloc (Nat.le_refl _) _) ((Below.refl _ _).alloc (Nat.le_refl _) _)) ((Below.refl _ _).alloc (Nat.le_refl _) _)) hb1) (Below.refl _ _).drew) hb2) hb3) hb4) (Below.refl _ _).drew) hb5) hb6) hb7)⟩
end Go.Proofs.Ytnmfmdilhepmjaa
