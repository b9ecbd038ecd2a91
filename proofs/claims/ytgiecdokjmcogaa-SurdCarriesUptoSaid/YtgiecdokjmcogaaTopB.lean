/-
  surdtop.wordsAlike, shiftsBack.
-/
import Derived.Test.YtgiecdokjmcogaaTopA
namespace Go.Proofs.Ytgiecdokjmcogaa
open Go.RowKit
set_option linter.unusedVariables false

theorem carry_le {x y n m : Nat} (h : x < W ^ n) (h' : y < W ^ m) : (x + y) / W ^ (max n m) ≤ 1 := by
  have h1 : W ^ n ≤ W ^ max n m := Nat.pow_le_pow_right W_pos (by omega)
  have h2 : W ^ m ≤ W ^ max n m := Nat.pow_le_pow_right W_pos (by omega)
  have h3 := Nat.pow_pos (n := max n m) W_pos
  have : (x + y) / W ^ (max n m) < 2 := Nat.div_lt_of_lt_mul (by omega)
  omega

set_option maxHeartbeats 4000000 in
set_option maxRecDepth 100000 in
theorem wordsAlike_any {A A2 : Option Addr} {n c m c2 : Nat} {xs ys : List Nat} {w : World} (h : Rd .u64 w A n c xs) (h' : Rd .u64 w A2 m c2 ys) (hx : All W xs) (hy : All W ys) (hn : n ≤ 4294967296) (hm : m ≤ 4294967296) :
    Calls Try.prog 62 #[.slice A n c, .slice A2 m c2] w (Keeps (.bool true) w) := by
  have hcl := carry_le (h.vlt hx) (h'.vlt hy)
  have hcW := carry_lt (h.vlt hx) (h'.vlt hy)
  have HS := Lib.hid (strip_carry hcW)
  have H := Lib.hid h
  have H' := Lib.hid h'
  have HX := Lib.hid hx
  have HY := Lib.hid hy
  have CA := Lib.hid fun (w : World) (A A2 : Option Addr) (c c2 : Nat) (h : Rd .u64 w A n c xs) (h' : Rd .u64 w A2 m c2 ys) => ladd_any A A2 n c m c2 xs ys w h h' hx hy (by omega) (by omega)
  have CN := Lib.hid fun (w : World) (v u : Value) (h : Num w v (val W xs) n) (h' : Num w u (val W ys) m) => nadd_any h h' (by omega) (by omega)
  obtain ⟨M, hM⟩ : ∃ M, M = max n m := ⟨_, rfl⟩
  rw [← hM] at HS CA hcl hcW CN
  have hMB : M ≤ 4294967296 := by omega
  obtain ⟨q, hq⟩ : ∃ q, q = (val W xs + val W ys) / W ^ M := ⟨_, rfl⟩
  rw [← hq] at HS CA hcl hcW
  have HAll : Hid (All W (wds W M (val W xs + val W ys) ++ [q])) := (wds_all W_pos _ _).append (All.cons hcW All.nil)
  have HW : Hid ((wds W M (val W xs + val W ys)).length = M) := wds_length _ _
  generalize wds W M (val W xs + val W ys) = zs at *
  have HV : Hid (val W (zs ++ [q]) = val W xs + val W ys) := by
    show _ = _
    have h0 := HS.out
    have h1 := strip_val (b := W) (zs ++ [q])
    rw [h0, dg_val W_gt] at h1
    exact h1.symm
  have d1 : decide ((q : Int) ≤ 1) = true := by simp; omega
  clear h h' hx hy hM hq hcl hcW
  go_enter Try.func62, Try.ntmps62
  go_wp2_with (first
    | (at_builtin; (refine wpList_app2 rfl (.tmp 9) (.tmp 10) rfl elW Try.underlying23 (t := 25) (k := .u64) (B := w.heap.size) (xs := []) (ys := xs) rfl rfl (Own.lit0 w (Nat.le_refl _)) (H.out.alloc _) (by omega) (by simp) ?_); intro A1 c1 w1 o1 hb1)
    | (at_builtin; (refine wpList_app2 rfl (.tmp 12) (.tmp 13) rfl elW Try.underlying23 (t := 25) (k := .u64) (B := w1.heap.size) (xs := []) (ys := ys) rfl rfl (Own.lit0 w1 (Nat.le_refl _)) ((H'.out.below ((belowA _ _).trans hb1)).alloc _) (by omega) (by simp) ?_); intro A2' c2' w2 o2 hb2))
  rw [Nat.zero_add] at o1 o2
  have B1 : Hid (Below w.heap.size w w1) := (belowA _ _).trans hb1
  have B2 : Hid (Below w1.heap.size w1 w2) := (belowA _ _).trans hb2
  have CS := Lib.hid (CA.out w2 _ _ _ _ (o1.rd.below B2.out) o2.rd)
  clear CA o1 o2 hb1 hb2
  go_wp2_with fail
  refine CS.out.mono ?_
  rintro e w3 ⟨A3, n3, c3, rfl, o3, hb3⟩
  have hn3 : n3 = M := by rw [← o3.len, HW.out]
  subst hn3
  have B3 := Lib.hid (bt (bt B1.out B2.out) hb3)
  have O3 := Lib.hid o3
  clear o3 hb3 CS B1 B2
  go_wp2_with (first
    | (at_builtin; (refine wpList_app2 rfl (.tmp 18) (.tmp 19) rfl elN Try.underlying22 (t := 25) (k := .u64) (B := w3.heap.size) (xs := []) (ys := zs) rfl rfl (Own.lit0 w3 (Nat.le_refl _)) (O3.out.rd.alloc _) (by omega) (by simp) ?_); intro A4 c4 w4 o4 hb4; rw [Nat.zero_add] at o4)
    | (at_builtin; (refine wpList_app rfl (.tmp 20) (.tmp 22) rfl elN (t := 25) (k := .u64) (B := w3.heap.size) (ys := [q]) rfl rfl (o4.alloc _) (Rd.lit1 w4 _) (by omega) (by have := hb4.size; simp at this ⊢; omega) ?_); intro A5 c5 w5 o5 hb5 _ _))
  have O5 : Hid (Own .u64 25 w3.heap.size w5 A5 (n3 + 1) c5 (zs ++ [q])) := by
    show Own _ _ _ _ _ _ _ _
    simpa using o5
  have B5 : Hid (Below w.heap.size w w5) := by
    have b4 : Below w3.heap.size w3 w4 := (belowA _ _).trans hb4
    have b5 : Below w3.heap.size w3 w5 := (b4.alloc b4.size _).trans hb5
    exact bt B3.out b5
  clear o4 o5 hb4 hb5
  go_wp2_with fail
  refine (nnorm_any (O5.out.numv HAll.out HV.out (Nat.le_refl _)) (by omega)).mono ?_
  rintro e w1 ⟨A_nn, n_nn, c_nn, rfl, o_nn, hb1, l_nn⟩
  go_wp2_with fail
  refine (copyN_any (((H.out.num HX.out (Nat.le_refl _)).below B5.out).below hb1) (by omega)).mono ?_
  rintro e w2 ⟨A_ca, n_ca, c_ca, xs_ca, rfl, o_ca, a_ca, v_ca, hb2, l_ca⟩
  have V_ca := Lib.hid v_ca
  clear v_ca
  go_wp2_with fail
  refine (copyN_any ((((H'.out.num HY.out (Nat.le_refl _)).below B5.out).below hb1).below hb2) (by omega)).mono ?_
  rintro e w3 ⟨A_cb, n_cb, c_cb, xs_cb, rfl, o_cb, a_cb, v_cb, hb3, l_cb⟩
  have V_cb := Lib.hid v_cb
  clear v_cb
  go_wp2_with fail
  refine (CN.out _ _ _ ((o_ca.numv a_ca V_ca.out l_ca).below hb3) (o_cb.numv a_cb V_cb.out l_cb)).mono ?_
  rintro e w4 ⟨A_s, n_s, c_s, rfl, o_s, hb4, l_s⟩
  go_wp2_with fail
  refine (sameT_yes (((o_nn.rd.below hb2).below hb3).below hb4) o_s.rd rfl (by omega)).mono ?_
  rintro e w5 ⟨rfl, hb5⟩
  clear o_nn o_ca o_cb o_s
  have B10 := Lib.hid (bt (bt (bt (bt (bt B5.out hb1) hb2) hb3) hb4) hb5)
  go_wp2_with (first
    | (at_builtin; (refine wpList_app2g (by rfl) (.tmp 37) (.tmp 38) rfl elW Try.underlying23 (t := 25) (k := .u64) (B := w5.heap.size) (xs := []) (ys := xs) rfl rfl (Own.lit0 _ (Nat.le_refl _)) ((H.out.below B10.out).alloc _) (by omega) (by simp) ?_); intro A6 c6 w6 o6 hb6; rw [Nat.zero_add] at o6)
    | (at_builtin; (refine wpList_app2g (by rfl) (.tmp 40) (.tmp 41) rfl elW Try.underlying23 (t := 25) (k := .u64) (B := w6.heap.size) (xs := []) (ys := ys) rfl rfl (Own.lit0 _ (Nat.le_refl _)) ((H'.out.below (bt B10.out ((belowA _ _).trans hb6))).alloc _) (by omega) (by simp) ?_); intro A7 c7 w7 o7 hb7; rw [Nat.zero_add] at o7))
  have B6 : Hid (Below w.heap.size w w6) := bt B10.out ((belowA _ _).trans hb6)
  have B67 : Hid (Below w6.heap.size w6 w7) := (belowA _ _).trans hb7
  have CC := Lib.hid (lcmp_any (o6.rd.below B67.out) o7.rd HX.out HY.out (by omega) (by omega))
  have B7 := Lib.hid (bt B6.out B67.out)
  clear o6 o7 hb6 hb7 B6 B67
  go_wp2_with fail
  refine CC.out.mono ?_
  rintro e w' ⟨rfl, rfl⟩
  go_wp2_with fail
  refine (copyN_any ((H.out.num HX.out (Nat.le_refl _)).below B7.out) (by omega)).mono ?_
  rintro e w1 ⟨A_da, n_da, c_da, xs_da, rfl, o_da, a_da, v_da, hb1, l_da⟩
  have V_da := Lib.hid v_da
  clear v_da
  go_wp2_with fail
  refine (copyN_any (((H'.out.num HY.out (Nat.le_refl _)).below B7.out).below hb1) (by omega)).mono ?_
  rintro e w2 ⟨A_db, n_db, c_db, xs_db, rfl, o_db, a_db, v_db, hb2, l_db⟩
  have V_db := Lib.hid v_db
  clear v_db
  go_wp2_with fail
  refine (ncmp_any ((o_da.numv a_da V_da.out l_da).below hb2) (o_db.numv a_db V_db.out l_db) (by omega) (by omega)).mono ?_
  rintro e w' ⟨rfl, rfl⟩
  go_wp2
  go_ret
  exact ⟨rfl, (bt (bt B7.out hb1) hb2)⟩
end Go.Proofs.Ytgiecdokjmcogaa
