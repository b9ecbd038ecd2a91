/-
  LimbMemory: alike, told, wanted.
-/
import Derived.Test.YtfpogghlcodncaaDoorApart01
import Derived.Test.YtfpogghlcodncaaDoorLookL
import Derived.Test.YtfpogghlcodncaaDoorShL
namespace Go.Proofs.YtfpogghlcodncaaDoor
open Go.RowKit
set_option linter.unusedVariables false

set_option maxHeartbeats 1000000 in
/-- list by list -/
theorem alike_yes {A A2 A3 A4 : Option Addr} {n c c2 m c3 c4 : Nat} {ns : List Nat} {ss ss2 : List Sh} {F : Nat → List Nat} {w : World} (h : RdV w A n c (ss.map shv)) (h' : RdV w A2 n c2 (ss2.map shv))
    (hF : ∀ (i : Nat) (s : Sh), ss[i]? = some s → Rd .u64 w s.1 s.2.1 s.2.2 (F i)) (hF' : ∀ (i : Nat) (s : Sh), ss2[i]? = some s → Rd .u64 w s.1 s.2.1 s.2.2 (F i)) (hM : ∀ (i : Nat) (s : Sh), ss[i]? = some s → s.2.1 ≤ 1099511627776) (hn : n ≤ 1048576) (hr : Rd .u64 w A3 m c3 ns) (hr' : Rd .u64 w A4 m c4 ns) (hm : m ≤ 1048576) :
    Calls Tryd.prog 7 #[.slice A n c, .slice A2 n c2, .slice A3 m c3, .slice A4 m c4] w (Keeps (.bool true) w) := by
  have H := Lib.hid h
  have H' := Lib.hid h'
  have HF := Lib.hid hF
  have HF' := Lib.hid hF'
  have HM := Lib.hid hM
  have C0 := Lib.hid (same1_yes hr hr' rfl (by omega))
  clear h h' hF hF' hM hr hr'
  go_enter Tryd.func7, Tryd.ntmps7
  go_wp2_with fail
  refine C0.out.mono ?_
  rintro e w1 ⟨rfl, hb1⟩
  go_wp2
  go_loopw [9] (fun iv wr => ∃ k : Nat, Hid (Below w.heap.size w wr) ∧ k ≤ n ∧ iv = .int .i64 (k : Int)) (fun iv _ => n - (intOf iv).toNat)
  case atStart => exact ⟨0, hb1, Nat.zero_le _, rfl⟩
  case round =>
    obtain ⟨k, hI, hk, rfl⟩ := hrel
    by_cases hlt : k < n
    · have hl1 : (ss.map shv).length = n := H.out.1.1
      have hl2 : (ss2.map shv).length = n := H'.out.1.1
      rw [List.length_map] at hl1 hl2
      obtain ⟨s, hs⟩ : ∃ s, ss[k]? = some s := ⟨_, List.getElem?_eq_getElem (by omega)⟩
      obtain ⟨s2, hs2⟩ : ∃ s2, ss2[k]? = some s2 := ⟨_, List.getElem?_eq_getElem (by omega)⟩
      obtain ⟨b, off, rfl, hb, hc⟩ := H.out.2 (by omega)
      obtain ⟨b2, off2, rfl, hb2, hc2⟩ := H'.out.2 (by omega)
      have C1 : w.cell? ⟨b, off + k, none⟩ = some (shv s) := by rw [hc k hlt, List.getElem?_map, hs]; rfl
      have C2 : w.cell? ⟨b2, off2 + k, none⟩ = some (shv s2) := by rw [hc2 k hlt, List.getElem?_map, hs2]; rfl
      have R1 := Lib.hid (HF.out k s hs)
      have R2 := Lib.hid (HF'.out k s2 hs2)
      have M1 := HM.out k s hs
      clear hc hc2 hs hs2 hl1 hl2
      obtain ⟨A1, n1, c1⟩ := s
      obtain ⟨A3, n3, c3⟩ := s2
      have e1 : At wr ⟨b, off + k, none⟩ (.slice A1 n1 c1) := ⟨(hI.out.cell (p := ⟨b, off + k, none⟩) hb).trans C1, Nat.lt_of_lt_of_le hb hI.out.size⟩
      have e2 : At wr ⟨b2, off2 + k, none⟩ (.slice A3 n3 c3) := ⟨(hI.out.cell (p := ⟨b2, off2 + k, none⟩) hb2).trans C2, Nat.lt_of_lt_of_le hb2 hI.out.size⟩
      have g1 := At.grow e1
      have g2 := At.grow e2
      have f1 := e1.1
      have f2 := e2.1
      have i1 : (0 : Int) ≤ (k : Int) := by omega
      have i2 : (k : Int) < (n : Int) := by omega
      clear C1 C2 e1 e2
      go_wp2_with fail
      refine wp_region_grow none [(true, 0), (true, 1), (true, 2), (true, 3), (true, 4), (true, 5), (true, 6), (true, 7), (false, 8), (true, 9)] (by kernel_rfl) (by kernel_rfl) ?_
      repeat (refine ord_pas (by rfl) (fun K hK => ?_); go_simp; refine hK _ _ (fun w' hw' => (by first | (go_simp; done) | (go_simp; intro hh; cases hh))) ?_; clear hK K)
      clear g1 g2 f1 f2
      (refine ord_call (by rfl) (fun K hK => ?_); go_simp; refine hK _ _ ?_; clear hK K)
      refine (same1_yes (R1.out.below (bt hI.out (below_drewN _ 1))) (R2.out.below (bt hI.out (below_drewN _ 1))) rfl M1).mono ?_
      rintro e w3 ⟨rfl, hb3⟩
      refine ⟨_, rfl, (Grow.of_below hb3), ?_⟩
      (refine ord_norm (fun K hK => ?_); go_simp; refine hK _ ?_; clear hK K)
      repeat (refine ord_pas (by rfl) (fun K hK => ?_); go_simp; refine hK _ _ (fun w' hw' => (by first | (go_simp; done) | (go_simp; intro hh; cases hh))) ?_; clear hK K)
      refine ord_nil ?_
      have HN : Hid (Below w.heap.size w w3) := bt (bt hI.out (below_drewN _ 1)) hb3
      clear hI hb3
      go_wp2
      go_roundw
      case rel => exact ⟨k + 1, HN, by omega, by go_num⟩
      case measure => simp [intOf]; omega
    · obtain rfl : k = n := by omega
      go_wp2
      go_ret
      exact ⟨rfl, hI.out⟩

theorem msub_bothN {xs ys : List Nat} {n m y : Nat} (hx : All W xs) (hys : All W ys) (hy : y < W) (hn : n ≤ 4294967296) (hm : m ≤ 4294967296) : ∃ (zs : List Nat) (v u : Nat), zs.length ≤ n ∧ u ≤ 13 ∧
    (∀ ⦃A A2 : Option Addr⦄ ⦃c c2 : Nat⦄ ⦃w : World⦄, Rd .u64 w A n c xs → Rd .u64 w A2 m c2 ys → Calls Tryd.prog 29 #[.slice A n c, .slice A2 m c2, .int .u64 (y : Int)] w (Gives3 .u64 22 w zs (.int .u64 (v : Int)) (.int .i64 (u : Int)))) ∧
    (∀ ⦃A A2 : Option Addr⦄ ⦃c c2 : Nat⦄ ⦃w : World⦄, Rd .u64 w A n c xs → Rd .u64 w A2 m c2 ys → Calls Tryd.prog 15 #[.slice A n c, .slice A2 m c2, .int .u64 (y : Int)] w (Gives3 .u64 22 w zs (.int .u64 (v : Int)) (.int .i64 (u : Int)))) := by
  by_cases h : m ≤ n
  · exact ⟨_, _, 0, by rw [wds_length]; exact Nat.le_refl _, by omega, fun _ _ _ _ _ h1 h2 => lmulSub_any h1 h2 hx hys rfl hy h (by omega), fun _ _ _ _ _ h1 h2 => rmulSub1_any h1 h2 hx hys hy h hn⟩
  · exact ⟨[], 0, 3, Nat.zero_le _, by omega, fun _ _ _ _ _ h1 h2 => lmulSub_arg (by omega), fun _ _ _ _ _ h1 h2 => rmulSub1_arg (by omega)⟩
theorem div_bothN {xs : List Nat} {n y : Nat} (hx : All W xs) (hy : y < W) (hn : n ≤ 4294967296) : ∃ (zs : List Nat) (v u : Nat), zs.length ≤ n ∧ u ≤ 13 ∧
    (∀ ⦃A : Option Addr⦄ ⦃c : Nat⦄ ⦃w : World⦄, Rd .u64 w A n c xs → Calls Tryd.prog 13 #[.slice A n c, .int .u64 (y : Int)] w (Gives3 .u64 22 w zs (.int .u64 (v : Int)) (.int .i64 (u : Int)))) ∧
    (∀ ⦃A : Option Addr⦄ ⦃c : Nat⦄ ⦃w : World⦄, Rd .u64 w A n c xs → Calls Tryd.prog 16 #[.slice A n c, .int .u64 (y : Int)] w (Gives3 .u64 22 w zs (.int .u64 (v : Int)) (.int .i64 (u : Int)))) := by
  by_cases h : y = 0
  · subst h
    exact ⟨[], 0, 1, Nat.zero_le _, by omega, fun _ _ _ h1 => divOne_zero, fun _ _ _ h1 => rdivOne1_zero⟩
  · exact ⟨_, _, 0, by rw [wds_length]; exact Nat.le_refl _, by omega, fun _ _ _ h1 => divOne_any h1 hx rfl (by omega) hy (by omega), fun _ _ _ h1 => rdivOne1_any h1 hx (by omega) hy hn⟩

theorem shl_bothN {xs : List Nat} {n : Nat} (z : Int) (hx : All W xs) (hn : n ≤ 4294967296) : ∃ (zs : List Nat) (u : Nat), (zs.length ≤ n + 16385) ∧ u ≤ 13 ∧
    (∀ ⦃A : Option Addr⦄ ⦃c : Nat⦄ ⦃w : World⦄, Rd .u64 w A n c xs → Calls Tryd.prog 30 #[.slice A n c, .int .i64 z] w (Gives2 .u64 22 w zs (.int .i64 (u : Int)))) ∧
    (∀ ⦃A : Option Addr⦄ ⦃c : Nat⦄ ⦃w : World⦄, Rd .u64 w A n c xs → Calls Tryd.prog 17 #[.slice A n c, .int .i64 z] w (Gives2 .u64 22 w zs (.int .i64 (u : Int)))) := by
  by_cases h : z < 0 ∨ 1048576 < z
  · exact ⟨[], 3, by simp, by omega, fun _ _ _ _ => lshl_bad h, fun _ _ _ _ => rshl1_bad h⟩
  · obtain ⟨s, rfl⟩ : ∃ s : Nat, z = (s : Int) := ⟨z.toNat, by omega⟩
    refine ⟨_, 0, ?_, by omega, fun _ _ _ h1 => lshl_any h1 hx rfl (by omega) (by omega), fun _ _ _ h1 => rshl1_any h1 hx rfl (by omega) hn⟩
    rw [wds_length, shlLen]
    split <;> omega
theorem shr_bothN {xs : List Nat} {n : Nat} {z : Int} (hz : z ≤ 9223372036854775807) (hx : All W xs) (hn : n ≤ 4294967296) : ∃ (zs : List Nat) (b : Bool) (u : Nat), (zs.length ≤ n) ∧ u ≤ 13 ∧
    (∀ ⦃A : Option Addr⦄ ⦃c : Nat⦄ ⦃w : World⦄, Rd .u64 w A n c xs → Calls Tryd.prog 31 #[.slice A n c, .int .i64 z] w (Gives3 .u64 22 w zs (.bool b) (.int .i64 (u : Int)))) ∧
    (∀ ⦃A : Option Addr⦄ ⦃c : Nat⦄ ⦃w : World⦄, Rd .u64 w A n c xs → Calls Tryd.prog 18 #[.slice A n c, .int .i64 z] w (Gives3 .u64 22 w zs (.bool b) (.int .i64 (u : Int)))) := by
  by_cases h : z < 0
  · exact ⟨[], false, 3, by simp, by omega, fun _ _ _ _ => lshr_neg h, fun _ _ _ _ => rshr1_neg h⟩
  · obtain ⟨s, rfl⟩ : ∃ s : Nat, z = (s : Int) := ⟨z.toNat, by omega⟩
    refine ⟨_, _, 0, ?_, by omega, fun _ _ _ h1 => ?_, fun _ _ _ h1 => rshr1_any h1 hx rfl (by omega) hn⟩
    · rw [wds_length]; omega
    · by_cases hs : s / 64 < n
      · exact lshr_in h1 hx rfl (by omega) hs
      · exact lshr_out h1 hx rfl (by omega) (by omega) (by omega)

/-- headers and what they hold -/
def AllL (t : TypeId) (B : Nat) (w : World) : List (Sh × List Nat) → Prop
  | [] => True
  | p :: l => Own .u64 t B w p.1.1 p.1.2.1 p.1.2.2 p.2 ∧ AllL t B w l
theorem AllL.els {t : TypeId} {B : Nat} {w : World} : ∀ {l : List (Sh × List Nat)}, AllL t B w l → Els t B w (l.map (·.1)) (fun i => (l.map (·.2)).getD i [])
  | [], _ => Els.nil
  | p :: l, ⟨h1, h2⟩ => by
    intro i s hi
    rcases i with _ | i
    · simp at hi; subst hi; simpa using h1
    · have := h2.els i s (by simpa using hi)
      simpa using this
/-- eight new lists and eleven words -/
def GWd (w : World) (X : List (List Nat)) (ns : List Nat) (e : Ending) (w' : World) : Prop :=
  ∃ A q ss An qn, e = .returned (.tuple #[.slice A 8 q, .slice An 11 qn]) ∧ (RowV 23 w.heap.size w' A 8 q (ss.map shv) ∧ Els 22 w.heap.size w' ss (fun i => X.getD i [])) ∧ Rd .u64 w' An 11 qn ns ∧ Below w.heap.size w w'
/-- .. made one behind the other -/
def GTd (w : World) (X : List (List Nat)) (ns : List Nat) (e : Ending) (w' : World) : Prop :=
  ∃ A q ss An qn, e = .returned (.tuple #[.slice A 8 q, .slice An 11 qn]) ∧ (RowV 23 w.heap.size w' A 8 q (ss.map shv) ∧ Els 22 w.heap.size w' ss (fun i => X.getD i [])) ∧ Rd .u64 w' An 11 qn ns ∧ Below w.heap.size w w' ∧ Chain w.heap.size ss w'.heap.size
set_option maxHeartbeats 4000000 in
set_option maxRecDepth 100000 in
theorem told_any {A A2 : Option Addr} {n ca m cb x y z c v1 u1 v2 u2 u3 u4 e1 e2 k5 l4 k9 k10 cA cB cM : Nat} {N s zc : Int} {b4 : Bool} {xs ys zsA zsB zsM zs1 zs2 zs3 zs4 : List Nat} {V1 V2 : Value} {w : World} (ht : TZ w) (h : Rd .u64 w A n ca xs) (h' : Rd .u64 w A2 m cb ys) (ha : All W xs) (hb : All W ys) (hn : n ≤ 1048576) (hm : m ≤ 1048576)
    (PA : ∀ ⦃A A2 : Option Addr⦄ ⦃c c2 : Nat⦄ ⦃w : World⦄, Rd .u64 w A n c xs → Rd .u64 w A2 m c2 ys → Calls Tryd.prog 12 #[.slice A n c, .slice A2 m c2] w (Gives2 .u64 22 w zsA (.int .u64 (cA : Int))))
    (PB : ∀ ⦃A A2 : Option Addr⦄ ⦃c c2 : Nat⦄ ⦃w : World⦄, Rd .u64 w A n c xs → Rd .u64 w A2 m c2 ys → Calls Tryd.prog 27 #[.slice A n c, .slice A2 m c2] w (Gives2 .u64 22 w zsB (.int .u64 (cB : Int))))
    (PM : ∀ ⦃A : Option Addr⦄ ⦃d : Nat⦄ ⦃w : World⦄, Rd .u64 w A n d xs → Calls Tryd.prog 28 #[.slice A n d, .int .u64 (x : Int), .int .u64 (c : Int)] w (Gives2 .u64 22 w zsM (.int .u64 (cM : Int))))
    (P1 : ∀ ⦃A A2 : Option Addr⦄ ⦃c c2 : Nat⦄ ⦃w : World⦄, Rd .u64 w A n c xs → Rd .u64 w A2 m c2 ys → Calls Tryd.prog 29 #[.slice A n c, .slice A2 m c2, .int .u64 (x : Int)] w (Gives3 .u64 22 w zs1 (.int .u64 (v1 : Int)) (.int .i64 (u1 : Int))))
    (P2 : ∀ ⦃A : Option Addr⦄ ⦃c : Nat⦄ ⦃w : World⦄, Rd .u64 w A n c xs → Calls Tryd.prog 13 #[.slice A n c, .int .u64 (x : Int)] w (Gives3 .u64 22 w zs2 (.int .u64 (v2 : Int)) (.int .i64 (u2 : Int))))
    (P3 : ∀ ⦃A : Option Addr⦄ ⦃c : Nat⦄ ⦃w : World⦄, Rd .u64 w A n c xs → Calls Tryd.prog 30 #[.slice A n c, .int .i64 s] w (Gives2 .u64 22 w zs3 (.int .i64 (u3 : Int))))
    (P4 : ∀ ⦃A : Option Addr⦄ ⦃c : Nat⦄ ⦃w : World⦄, Rd .u64 w A n c xs → Calls Tryd.prog 31 #[.slice A n c, .int .i64 s] w (Gives3 .u64 22 w zs4 (.bool b4) (.int .i64 (u4 : Int))))
    (hu1 : u1 ≤ 13) (hu2 : u2 ≤ 13) (hu3 : u3 ≤ 13) (hu4 : u4 ≤ 13) (hs : bits .and .i64 N 127 = s) (he1 : IntKind.u64.wrap ((v1 : Int) + (u1 : Int)) = (e1 : Int)) (he2 : IntKind.u64.wrap ((v2 : Int) + (u2 : Int)) = (e2 : Int)) (hzc : cmpN (val W xs) (val W ys) = zc) (hk5 : zc + 5 = (k5 : Int)) (hk6 : k5 ≤ 6)
    (hl4 : (b4 = true ∧ l4 = u4 + 1) ∨ (b4 = false ∧ l4 = u4)) (hk9 : IntKind.u64.wrap ((nb (val W xs) : Nat) : Int) = (k9 : Int)) (hk10 : IntKind.u64.wrap ((tzn (val W xs) : Nat) : Int) = (k10 : Int)) :
    Calls Tryd.prog 6 #[.slice A n ca, .slice A2 m cb, .agg #[.int .u64 (x : Int), .int .u64 (y : Int), .int .u64 (z : Int), .int .u64 (c : Int), V1, V2, .int .i64 N]] w
      (GTd w [strip xs, zsA, zsB, zsM, zs1, zs2, zs3, zs4] [0, cA, cB, cM, e1, e2, u3, l4, k5, k9, k10]) := by
  have HP := Lib.hid (And.intro PA (And.intro PB (And.intro PM (And.intro P1 (And.intro P2 (And.intro P3 P4))))))
  have CCM := Lib.hid (fun (A A2 : Option Addr) (ca cb : Nat) (w : World) (h : Rd .u64 w A n ca xs) (h' : Rd .u64 w A2 m cb ys) => (by rw [← hzc]; exact lcmp_any h h' ha hb (by omega) (by omega) : Calls Tryd.prog 32 #[.slice A n ca, .slice A2 m cb] w (fun e w' => e = .returned (.int .i64 zc) ∧ w = w')))
  have H := Lib.hid h
  have H' := Lib.hid h'
  have HA := Lib.hid ha
  have HT := Lib.hid ht
  have HL4 := Lib.hid hl4
  have HK5 := Lib.hid hk5
  have HE1 := Lib.hid (And.intro he1 he2)
  have HS := Lib.hid hs
  have HK9 := Lib.hid (And.intro hk9 hk10)
  have z1 : -5 ≤ zc := by omega
  have z2 : zc ≤ 1 := by omega
  clear hl4 hk5 he1 he2 hs hk9 hk10 hzc PA PB PM P1 P2 P3 P4 h h' ha hb ht
  go_enter Tryd.func6, Tryd.ntmps6
  go_wp2_with fail
  refine (trim_any _ _ _ _ _ (H.out.below ((Below.refl _ _).alloc (Nat.le_refl _) _)) (by omega)).mono ?_
  rintro e w1 ⟨A_t0, n_t0, c_t0, rfl, o_t0, hb1⟩
  have L_t0 := Lib.hid o_t0.lies
  go_wp2_with fail
  refine (HP.out.1 ((H.out.below ((Below.refl _ _).alloc (Nat.le_refl _) _)).below hb1) ((H'.out.below ((Below.refl _ _).alloc (Nat.le_refl _) _)).below hb1)).mono ?_
  rintro e w2 ⟨A_sm, n_sm, c_sm, rfl, o_sm, hb2⟩
  have L_sm := Lib.hid o_sm.lies
  go_wp2_with fail
  refine (HP.out.2.1 (((H.out.below ((Below.refl _ _).alloc (Nat.le_refl _) _)).below hb1).below hb2) (((H'.out.below ((Below.refl _ _).alloc (Nat.le_refl _) _)).below hb1).below hb2)).mono ?_
  rintro e w3 ⟨A_df, n_df, c_df, rfl, o_df, hb3⟩
  have L_df := Lib.hid o_df.lies
  have x0 := ((((At.box (i := 0) _ _ rfl).below hb1).below hb2).below hb3).1
  have x3 := ((((At.box (i := 3) _ _ rfl).below hb1).below hb2).below hb3).1
  go_wp2_with fail
  refine (HP.out.2.2.1 ((((H.out.below ((Below.refl _ _).alloc (Nat.le_refl _) _)).below hb1).below hb2).below hb3)).mono ?_
  rintro e w4 ⟨A_pr, n_pr, c_pr, rfl, o_pr, hb4⟩
  have L_pr := Lib.hid o_pr.lies
  clear x0 x3
  have x0 := (((((At.box (i := 0) _ _ rfl).below hb1).below hb2).below hb3).below hb4).1
  go_wp2_with fail
  refine (HP.out.2.2.2.1 (((((H.out.below ((Below.refl _ _).alloc (Nat.le_refl _) _)).below hb1).below hb2).below hb3).below hb4) (((((H'.out.below ((Below.refl _ _).alloc (Nat.le_refl _) _)).below hb1).below hb2).below hb3).below hb4)).mono ?_
  rintro e w5 ⟨A_ms, n_ms, c_ms, rfl, o_ms, hb5⟩
  have L_ms := Lib.hid o_ms.lies
  clear x0
  have x0 := ((((((At.box (i := 0) _ _ rfl).below hb1).below hb2).below hb3).below hb4).below hb5).1
  go_wp2_with fail
  refine (HP.out.2.2.2.2.1 ((((((H.out.below ((Below.refl _ _).alloc (Nat.le_refl _) _)).below hb1).below hb2).below hb3).below hb4).below hb5)).mono ?_
  rintro e w6 ⟨A_dv, n_dv, c_dv, rfl, o_dv, hb6⟩
  have L_dv := Lib.hid o_dv.lies
  clear x0
  have hs := HS.out
  have x6 := (((((((At.box (i := 6) _ _ rfl).below hb1).below hb2).below hb3).below hb4).below hb5).below hb6).1
  go_wp2_with fail
  refine (HP.out.2.2.2.2.2.1 (((((((H.out.below ((Below.refl _ _).alloc (Nat.le_refl _) _)).below hb1).below hb2).below hb3).below hb4).below hb5).below hb6)).mono ?_
  rintro e w7 ⟨A_sl, n_sl, c_sl, rfl, o_sl, hb7⟩
  have L_sl := Lib.hid o_sl.lies
  clear x6
  have x6 := ((((((((At.box (i := 6) _ _ rfl).below hb1).below hb2).below hb3).below hb4).below hb5).below hb6).below hb7).1
  go_wp2_with fail
  refine (HP.out.2.2.2.2.2.2 ((((((((H.out.below ((Below.refl _ _).alloc (Nat.le_refl _) _)).below hb1).below hb2).below hb3).below hb4).below hb5).below hb6).below hb7)).mono ?_
  rintro e w8 ⟨A_sr, n_sr, c_sr, rfl, o_sr, hb8⟩
  have L_sr := Lib.hid o_sr.lies
  clear x6 hs
  have HO : Hid (AllL 22 w.heap.size w8 [((A_t0, n_t0, c_t0), strip xs), ((A_sm, n_sm, c_sm), zsA), ((A_df, n_df, c_df), zsB), ((A_pr, n_pr, c_pr), zsM), ((A_ms, n_ms, c_ms), zs1), ((A_dv, n_dv, c_dv), zs2), ((A_sl, n_sl, c_sl), zs3), ((A_sr, n_sr, c_sr), zs4)]) := ⟨((((((((o_t0.mono ((Below.refl _ _).alloc (Nat.le_refl _) _).size).below hb2).below hb3).below hb4).below hb5).below hb6).below hb7).below hb8), (((((((o_sm.mono (bt ((Below.refl _ _).alloc (Nat.le_refl _) _) hb1).size).below hb3).below hb4).below hb5).below hb6).below hb7).below hb8), ((((((o_df.mono (bt (bt ((Below.refl _ _).alloc (Nat.le_refl _) _) hb1) hb2).size).below hb4).below hb5).below hb6).below hb7).below hb8), (((((o_pr.mono (bt (bt (bt ((Below.refl _ _).alloc (Nat.le_refl _) _) hb1) hb2) hb3).size).below hb5).below hb6).below hb7).below hb8), ((((o_ms.mono (bt (bt (bt (bt ((Below.refl _ _).alloc (Nat.le_refl _) _) hb1) hb2) hb3) hb4).size).below hb6).below hb7).below hb8), (((o_dv.mono (bt (bt (bt (bt (bt ((Below.refl _ _).alloc (Nat.le_refl _) _) hb1) hb2) hb3) hb4) hb5).size).below hb7).below hb8), ((o_sl.mono (bt (bt (bt (bt (bt (bt ((Below.refl _ _).alloc (Nat.le_refl _) _) hb1) hb2) hb3) hb4) hb5) hb6).size).below hb8), (o_sr.mono (bt (bt (bt (bt (bt (bt (bt ((Below.refl _ _).alloc (Nat.le_refl _) _) hb1) hb2) hb3) hb4) hb5) hb6) hb7).size), trivial⟩
  have HCH : Hid (Chain w.heap.size [(A_t0, n_t0, c_t0), (A_sm, n_sm, c_sm), (A_df, n_df, c_df), (A_pr, n_pr, c_pr), (A_ms, n_ms, c_ms), (A_dv, n_dv, c_dv), (A_sl, n_sl, c_sl), (A_sr, n_sr, c_sr)] w8.heap.size) := ⟨_, (bt ((Below.refl _ _).alloc (Nat.le_refl _) _) hb1).size, L_t0.out.mono ((Below.refl _ _).alloc (Nat.le_refl _) _).size (Nat.le_refl _), ⟨_, hb2.size, L_sm.out.mono (Nat.le_refl _) (Nat.le_refl _), ⟨_, hb3.size, L_df.out.mono (Nat.le_refl _) (Nat.le_refl _), ⟨_, hb4.size, L_pr.out.mono (Nat.le_refl _) (Nat.le_refl _), ⟨_, hb5.size, L_ms.out.mono (Nat.le_refl _) (Nat.le_refl _), ⟨_, hb6.size, L_dv.out.mono (Nat.le_refl _) (Nat.le_refl _), ⟨_, hb7.size, L_sl.out.mono (Nat.le_refl _) (Nat.le_refl _), ⟨_, hb8.size, L_sr.out.mono (Nat.le_refl _) (Nat.le_refl _), (Nat.le_refl _)⟩⟩⟩⟩⟩⟩⟩⟩
  have HBL := Lib.hid (bt (bt (bt (bt (bt (bt (bt (bt ((Below.refl _ _).alloc (Nat.le_refl _) _) hb1) hb2) hb3) hb4) hb5) hb6) hb7) hb8)
  obtain ⟨he1, he2⟩ := HE1.out
  have he1' := lay he1
  have he2' := lay he2
  clear HE1
  rcases HL4.out with ⟨rfl, h4⟩ | ⟨rfl, h4⟩
  · have H4 := Lib.hid h4
    clear h4
    go_wp2_with fail
    refine (CCM.out _ _ _ _ _ ((((((((((H.out.below ((Below.refl _ _).alloc (Nat.le_refl _) _)).below hb1).below hb2).below hb3).below hb4).below hb5).below hb6).below hb7).below hb8).below ((Below.refl _ _).alloc (Nat.le_refl _) (.cells #[.slice A_t0 n_t0 c_t0, .slice A_sm n_sm c_sm, .slice A_df n_df c_df, .slice A_pr n_pr c_pr, .slice A_ms n_ms c_ms, .slice A_dv n_dv c_dv, .slice A_sl n_sl c_sl, .slice A_sr n_sr c_sr] 23))) ((((((((((H'.out.below ((Below.refl _ _).alloc (Nat.le_refl _) _)).below hb1).below hb2).below hb3).below hb4).below hb5).below hb6).below hb7).below hb8).below ((Below.refl _ _).alloc (Nat.le_refl _) (.cells #[.slice A_t0 n_t0 c_t0, .slice A_sm n_sm c_sm, .slice A_df n_df c_df, .slice A_pr n_pr c_pr, .slice A_ms n_ms c_ms, .slice A_dv n_dv c_dv, .slice A_sl n_sl c_sl, .slice A_sr n_sr c_sr] 23)))).mono ?_
    rintro e w' ⟨rfl, rfl⟩
    have hk5 := HK5.out
    go_wp2_with fail
    refine (lbits_nb ((((((((((H.out.below ((Below.refl _ _).alloc (Nat.le_refl _) _)).below hb1).below hb2).below hb3).below hb4).below hb5).below hb6).below hb7).below hb8).below ((Below.refl _ _).alloc (Nat.le_refl _) (.cells #[.slice A_t0 n_t0 c_t0, .slice A_sm n_sm c_sm, .slice A_df n_df c_df, .slice A_pr n_pr c_pr, .slice A_ms n_ms c_ms, .slice A_dv n_dv c_dv, .slice A_sl n_sl c_sl, .slice A_sr n_sr c_sr] 23))) HA.out (by omega)).mono ?_
    rintro e w' ⟨rfl, rfl⟩
    go_wp2_with fail
    refine (lzeros_any ((((((((((H.out.below ((Below.refl _ _).alloc (Nat.le_refl _) _)).below hb1).below hb2).below hb3).below hb4).below hb5).below hb6).below hb7).below hb8).below ((Below.refl _ _).alloc (Nat.le_refl _) (.cells #[.slice A_t0 n_t0 c_t0, .slice A_sm n_sm c_sm, .slice A_df n_df c_df, .slice A_pr n_pr c_pr, .slice A_ms n_ms c_ms, .slice A_dv n_dv c_dv, .slice A_sl n_sl c_sl, .slice A_sr n_sr c_sr] 23))) HA.out ((((((((((HT.out.below ((Below.refl _ _).alloc (Nat.le_refl _) _)).below hb1).below hb2).below hb3).below hb4).below hb5).below hb6).below hb7).below hb8).below ((Below.refl _ _).alloc (Nat.le_refl _) (.cells #[.slice A_t0 n_t0 c_t0, .slice A_sm n_sm c_sm, .slice A_df n_df c_df, .slice A_pr n_pr c_pr, .slice A_ms n_ms c_ms, .slice A_dv n_dv c_dv, .slice A_sl n_sl c_sl, .slice A_sr n_sr c_sr] 23))) (by omega)).mono ?_
    rintro e w' ⟨rfl, rfl⟩
    obtain ⟨hk9, hk10⟩ := HK9.out
    have hk9' := lay hk9
    have hk10' := lay hk10
    go_wp2
    go_ret2
    have h4 := H4.out
    subst h4
    exact ⟨_, _, [(A_t0, n_t0, c_t0), (A_sm, n_sm, c_sm), (A_df, n_df, c_df), (A_pr, n_pr, c_pr), (A_ms, n_ms, c_ms), (A_dv, n_dv, c_dv), (A_sl, n_sl, c_sl), (A_sr, n_sr, c_sr)], _, _, rfl, ⟨(RowV.lit (T := 23) (B := w.heap.size) w8 [.slice A_t0 n_t0 c_t0, .slice A_sm n_sm c_sm, .slice A_df n_df c_df, .slice A_pr n_pr c_pr, .slice A_ms n_ms c_ms, .slice A_dv n_dv c_dv, .slice A_sl n_sl c_sl, .slice A_sr n_sr c_sr] rfl (by simp) HBL.out.size).below (belowA _ _), (HO.out.els.below (belowA _ _)).below (belowA _ _)⟩, Rd.litn (k := .u64) (t := 22) _ [0, cA, cB, cM, e1, e2, u3, (u4 + 1), k5, k9, k10] (by simp) (by simp), ((bt (bt (bt (bt (bt (bt (bt (bt (bt ((Below.refl _ _).alloc (Nat.le_refl _) _) hb1) hb2) hb3) hb4) hb5) hb6) hb7) hb8) ((Below.refl _ _).alloc (Nat.le_refl _) (.cells #[.slice A_t0 n_t0 c_t0, .slice A_sm n_sm c_sm, .slice A_df n_df c_df, .slice A_pr n_pr c_pr, .slice A_ms n_ms c_ms, .slice A_dv n_dv c_dv, .slice A_sl n_sl c_sl, .slice A_sr n_sr c_sr] 23))).alloc (bt (bt (bt (bt (bt (bt (bt (bt (bt ((Below.refl _ _).alloc (Nat.le_refl _) _) hb1) hb2) hb3) hb4) hb5) hb6) hb7) hb8) ((Below.refl _ _).alloc (Nat.le_refl _) (.cells #[.slice A_t0 n_t0 c_t0, .slice A_sm n_sm c_sm, .slice A_df n_df c_df, .slice A_pr n_pr c_pr, .slice A_ms n_ms c_ms, .slice A_dv n_dv c_dv, .slice A_sl n_sl c_sl, .slice A_sr n_sr c_sr] 23))).size _), HCH.out.mono (Nat.le_refl _) (by simp; omega)⟩
  · have H4 := Lib.hid h4
    clear h4
    go_wp2_with fail
    refine (CCM.out _ _ _ _ _ ((((((((((H.out.below ((Below.refl _ _).alloc (Nat.le_refl _) _)).below hb1).below hb2).below hb3).below hb4).below hb5).below hb6).below hb7).below hb8).below ((Below.refl _ _).alloc (Nat.le_refl _) (.cells #[.slice A_t0 n_t0 c_t0, .slice A_sm n_sm c_sm, .slice A_df n_df c_df, .slice A_pr n_pr c_pr, .slice A_ms n_ms c_ms, .slice A_dv n_dv c_dv, .slice A_sl n_sl c_sl, .slice A_sr n_sr c_sr] 23))) ((((((((((H'.out.below ((Below.refl _ _).alloc (Nat.le_refl _) _)).below hb1).below hb2).below hb3).below hb4).below hb5).below hb6).below hb7).below hb8).below ((Below.refl _ _).alloc (Nat.le_refl _) (.cells #[.slice A_t0 n_t0 c_t0, .slice A_sm n_sm c_sm, .slice A_df n_df c_df, .slice A_pr n_pr c_pr, .slice A_ms n_ms c_ms, .slice A_dv n_dv c_dv, .slice A_sl n_sl c_sl, .slice A_sr n_sr c_sr] 23)))).mono ?_
    rintro e w' ⟨rfl, rfl⟩
    have hk5 := HK5.out
    go_wp2_with fail
    refine (lbits_nb ((((((((((H.out.below ((Below.refl _ _).alloc (Nat.le_refl _) _)).below hb1).below hb2).below hb3).below hb4).below hb5).below hb6).below hb7).below hb8).below ((Below.refl _ _).alloc (Nat.le_refl _) (.cells #[.slice A_t0 n_t0 c_t0, .slice A_sm n_sm c_sm, .slice A_df n_df c_df, .slice A_pr n_pr c_pr, .slice A_ms n_ms c_ms, .slice A_dv n_dv c_dv, .slice A_sl n_sl c_sl, .slice A_sr n_sr c_sr] 23))) HA.out (by omega)).mono ?_
    rintro e w' ⟨rfl, rfl⟩
    go_wp2_with fail
    refine (lzeros_any ((((((((((H.out.below ((Below.refl _ _).alloc (Nat.le_refl _) _)).below hb1).below hb2).below hb3).below hb4).below hb5).below hb6).below hb7).below hb8).below ((Below.refl _ _).alloc (Nat.le_refl _) (.cells #[.slice A_t0 n_t0 c_t0, .slice A_sm n_sm c_sm, .slice A_df n_df c_df, .slice A_pr n_pr c_pr, .slice A_ms n_ms c_ms, .slice A_dv n_dv c_dv, .slice A_sl n_sl c_sl, .slice A_sr n_sr c_sr] 23))) HA.out ((((((((((HT.out.below ((Below.refl _ _).alloc (Nat.le_refl _) _)).below hb1).below hb2).below hb3).below hb4).below hb5).below hb6).below hb7).below hb8).below ((Below.refl _ _).alloc (Nat.le_refl _) (.cells #[.slice A_t0 n_t0 c_t0, .slice A_sm n_sm c_sm, .slice A_df n_df c_df, .slice A_pr n_pr c_pr, .slice A_ms n_ms c_ms, .slice A_dv n_dv c_dv, .slice A_sl n_sl c_sl, .slice A_sr n_sr c_sr] 23))) (by omega)).mono ?_
    rintro e w' ⟨rfl, rfl⟩
    obtain ⟨hk9, hk10⟩ := HK9.out
    have hk9' := lay hk9
    have hk10' := lay hk10
    go_wp2
    go_ret2
    have h4 := H4.out
    subst h4
    exact ⟨_, _, [(A_t0, n_t0, c_t0), (A_sm, n_sm, c_sm), (A_df, n_df, c_df), (A_pr, n_pr, c_pr), (A_ms, n_ms, c_ms), (A_dv, n_dv, c_dv), (A_sl, n_sl, c_sl), (A_sr, n_sr, c_sr)], _, _, rfl, ⟨(RowV.lit (T := 23) (B := w.heap.size) w8 [.slice A_t0 n_t0 c_t0, .slice A_sm n_sm c_sm, .slice A_df n_df c_df, .slice A_pr n_pr c_pr, .slice A_ms n_ms c_ms, .slice A_dv n_dv c_dv, .slice A_sl n_sl c_sl, .slice A_sr n_sr c_sr] rfl (by simp) HBL.out.size).below (belowA _ _), (HO.out.els.below (belowA _ _)).below (belowA _ _)⟩, Rd.litn (k := .u64) (t := 22) _ [0, cA, cB, cM, e1, e2, u3, l4, k5, k9, k10] (by simp) (by simp), ((bt (bt (bt (bt (bt (bt (bt (bt (bt ((Below.refl _ _).alloc (Nat.le_refl _) _) hb1) hb2) hb3) hb4) hb5) hb6) hb7) hb8) ((Below.refl _ _).alloc (Nat.le_refl _) (.cells #[.slice A_t0 n_t0 c_t0, .slice A_sm n_sm c_sm, .slice A_df n_df c_df, .slice A_pr n_pr c_pr, .slice A_ms n_ms c_ms, .slice A_dv n_dv c_dv, .slice A_sl n_sl c_sl, .slice A_sr n_sr c_sr] 23))).alloc (bt (bt (bt (bt (bt (bt (bt (bt (bt ((Below.refl _ _).alloc (Nat.le_refl _) _) hb1) hb2) hb3) hb4) hb5) hb6) hb7) hb8) ((Below.refl _ _).alloc (Nat.le_refl _) (.cells #[.slice A_t0 n_t0 c_t0, .slice A_sm n_sm c_sm, .slice A_df n_df c_df, .slice A_pr n_pr c_pr, .slice A_ms n_ms c_ms, .slice A_dv n_dv c_dv, .slice A_sl n_sl c_sl, .slice A_sr n_sr c_sr] 23))).size _), HCH.out.mono (Nat.le_refl _) (by simp; omega)⟩
set_option maxHeartbeats 4000000 in
set_option maxRecDepth 100000 in
theorem wanted_any {A A2 : Option Addr} {n ca m cb x y z c v1 u1 v2 u2 u3 u4 e1 e2 k5 l4 k9 k10 cA cB cM : Nat} {N s zc : Int} {b4 : Bool} {xs ys zsA zsB zsM zs1 zs2 zs3 zs4 : List Nat} {V1 V2 : Value} {w : World} (h : Rd .u64 w A n ca xs) (h' : Rd .u64 w A2 m cb ys) (ha : All W xs) (hb : All W ys) (hn : n ≤ 1048576) (hm : m ≤ 1048576)
    (PA : ∀ ⦃A A2 : Option Addr⦄ ⦃c c2 : Nat⦄ ⦃w : World⦄, Rd .u64 w A n c xs → Rd .u64 w A2 m c2 ys → Calls Tryd.prog 19 #[.slice A n c, .slice A2 m c2] w (Gives2 .u64 22 w zsA (.int .u64 (cA : Int))))
    (PB : ∀ ⦃A A2 : Option Addr⦄ ⦃c c2 : Nat⦄ ⦃w : World⦄, Rd .u64 w A n c xs → Rd .u64 w A2 m c2 ys → Calls Tryd.prog 20 #[.slice A n c, .slice A2 m c2] w (Gives2 .u64 22 w zsB (.int .u64 (cB : Int))))
    (PM : ∀ ⦃A : Option Addr⦄ ⦃d : Nat⦄ ⦃w : World⦄, Rd .u64 w A n d xs → Calls Tryd.prog 21 #[.slice A n d, .int .u64 (x : Int), .int .u64 (c : Int)] w (Gives2 .u64 22 w zsM (.int .u64 (cM : Int))))
    (P1 : ∀ ⦃A A2 : Option Addr⦄ ⦃c c2 : Nat⦄ ⦃w : World⦄, Rd .u64 w A n c xs → Rd .u64 w A2 m c2 ys → Calls Tryd.prog 15 #[.slice A n c, .slice A2 m c2, .int .u64 (x : Int)] w (Gives3 .u64 22 w zs1 (.int .u64 (v1 : Int)) (.int .i64 (u1 : Int))))
    (P2 : ∀ ⦃A : Option Addr⦄ ⦃c : Nat⦄ ⦃w : World⦄, Rd .u64 w A n c xs → Calls Tryd.prog 16 #[.slice A n c, .int .u64 (x : Int)] w (Gives3 .u64 22 w zs2 (.int .u64 (v2 : Int)) (.int .i64 (u2 : Int))))
    (P3 : ∀ ⦃A : Option Addr⦄ ⦃c : Nat⦄ ⦃w : World⦄, Rd .u64 w A n c xs → Calls Tryd.prog 17 #[.slice A n c, .int .i64 s] w (Gives2 .u64 22 w zs3 (.int .i64 (u3 : Int))))
    (P4 : ∀ ⦃A : Option Addr⦄ ⦃c : Nat⦄ ⦃w : World⦄, Rd .u64 w A n c xs → Calls Tryd.prog 18 #[.slice A n c, .int .i64 s] w (Gives3 .u64 22 w zs4 (.bool b4) (.int .i64 (u4 : Int))))
    (hu1 : u1 ≤ 13) (hu2 : u2 ≤ 13) (hu3 : u3 ≤ 13) (hu4 : u4 ≤ 13) (hs : bits .and .i64 N 127 = s) (he1 : IntKind.u64.wrap ((v1 : Int) + (u1 : Int)) = (e1 : Int)) (he2 : IntKind.u64.wrap ((v2 : Int) + (u2 : Int)) = (e2 : Int)) (hzc : cmpN (val W xs) (val W ys) = zc) (hk5 : zc + 5 = (k5 : Int)) (hk6 : k5 ≤ 6)
    (hl4 : (b4 = true ∧ l4 = u4 + 1) ∨ (b4 = false ∧ l4 = u4)) (hk9 : IntKind.u64.wrap ((nb (val W xs) : Nat) : Int) = (k9 : Int)) (hk10 : IntKind.u64.wrap ((tzn (val W xs) : Nat) : Int) = (k10 : Int)) :
    Calls Tryd.prog 5 #[.slice A n ca, .slice A2 m cb, .agg #[.int .u64 (x : Int), .int .u64 (y : Int), .int .u64 (z : Int), .int .u64 (c : Int), V1, V2, .int .i64 N]] w
      (GWd w [strip xs, zsA, zsB, zsM, zs1, zs2, zs3, zs4] [0, cA, cB, cM, e1, e2, u3, l4, k5, k9, k10]) := by
  have HP := Lib.hid (And.intro PA (And.intro PB (And.intro PM (And.intro P1 (And.intro P2 (And.intro P3 P4))))))
  have CCM := Lib.hid (fun (A A2 : Option Addr) (ca cb : Nat) (w : World) (h : Rd .u64 w A n ca xs) (h' : Rd .u64 w A2 m cb ys) => (by rw [← hzc]; exact rcmp1_any h h' ha hb (by omega) (by omega) : Calls Tryd.prog 23 #[.slice A n ca, .slice A2 m cb] w (Keeps (.int .i64 zc) w)))
  have H := Lib.hid h
  have H' := Lib.hid h'
  have HA := Lib.hid ha
  have HL4 := Lib.hid hl4
  have HK5 := Lib.hid hk5
  have HE1 := Lib.hid (And.intro he1 he2)
  have HS := Lib.hid hs
  have HK9 := Lib.hid (And.intro hk9 hk10)
  have z1 : -5 ≤ zc := by omega
  have z2 : zc ≤ 1 := by omega
  clear hl4 hk5 he1 he2 hs hk9 hk10 hzc PA PB PM P1 P2 P3 P4 h h' ha hb
  go_enter Tryd.func5, Tryd.ntmps5
  have x0 := (At.box (i := 0) (t := 25) w #[.int .u64 (x : Int), .int .u64 (y : Int), .int .u64 (z : Int), .int .u64 (c : Int), V1, V2, .int .i64 N] rfl).1
  go_wp2_with fail
  refine (HP.out.2.2.2.1 (H.out.below ((Below.refl _ _).alloc (Nat.le_refl _) _)) (H'.out.below ((Below.refl _ _).alloc (Nat.le_refl _) _))).mono ?_
  rintro e w1 ⟨A_ms, n_ms, c_ms, rfl, o_ms, hb1⟩
  clear x0
  have x0 := ((At.box (i := 0) (t := 25) w #[.int .u64 (x : Int), .int .u64 (y : Int), .int .u64 (z : Int), .int .u64 (c : Int), V1, V2, .int .i64 N] rfl).below hb1).1
  go_wp2_with fail
  refine (HP.out.2.2.2.2.1 ((H.out.below ((Below.refl _ _).alloc (Nat.le_refl _) _)).below hb1)).mono ?_
  rintro e w2 ⟨A_dv, n_dv, c_dv, rfl, o_dv, hb2⟩
  clear x0
  have hs := HS.out
  have x6 := (((At.box (i := 6) (t := 25) w #[.int .u64 (x : Int), .int .u64 (y : Int), .int .u64 (z : Int), .int .u64 (c : Int), V1, V2, .int .i64 N] rfl).below hb1).below hb2).1
  go_wp2_with fail
  refine (HP.out.2.2.2.2.2.1 (((H.out.below ((Below.refl _ _).alloc (Nat.le_refl _) _)).below hb1).below hb2)).mono ?_
  rintro e w3 ⟨A_sl, n_sl, c_sl, rfl, o_sl, hb3⟩
  clear x6
  have x6 := ((((At.box (i := 6) (t := 25) w #[.int .u64 (x : Int), .int .u64 (y : Int), .int .u64 (z : Int), .int .u64 (c : Int), V1, V2, .int .i64 N] rfl).below hb1).below hb2).below hb3).1
  go_wp2_with fail
  refine (HP.out.2.2.2.2.2.2 ((((H.out.below ((Below.refl _ _).alloc (Nat.le_refl _) _)).below hb1).below hb2).below hb3)).mono ?_
  rintro e w4 ⟨A_sr, n_sr, c_sr, rfl, o_sr, hb4⟩
  clear x6 hs
  go_wp2_with fail
  refine (HP.out.1 (((((H.out.below ((Below.refl _ _).alloc (Nat.le_refl _) _)).below hb1).below hb2).below hb3).below hb4) (((((H'.out.below ((Below.refl _ _).alloc (Nat.le_refl _) _)).below hb1).below hb2).below hb3).below hb4)).mono ?_
  rintro e w5 ⟨A_sm, n_sm, c_sm, rfl, o_sm, hb5⟩
  go_wp2_with fail
  refine (HP.out.2.1 ((((((H.out.below ((Below.refl _ _).alloc (Nat.le_refl _) _)).below hb1).below hb2).below hb3).below hb4).below hb5) ((((((H'.out.below ((Below.refl _ _).alloc (Nat.le_refl _) _)).below hb1).below hb2).below hb3).below hb4).below hb5)).mono ?_
  rintro e w6 ⟨A_df, n_df, c_df, rfl, o_df, hb6⟩
  have x0 := (((((((At.box (i := 0) (t := 25) w #[.int .u64 (x : Int), .int .u64 (y : Int), .int .u64 (z : Int), .int .u64 (c : Int), V1, V2, .int .i64 N] rfl).below hb1).below hb2).below hb3).below hb4).below hb5).below hb6).1
  have x3 := (((((((At.box (i := 3) (t := 25) w #[.int .u64 (x : Int), .int .u64 (y : Int), .int .u64 (z : Int), .int .u64 (c : Int), V1, V2, .int .i64 N] rfl).below hb1).below hb2).below hb3).below hb4).below hb5).below hb6).1
  go_wp2_with fail
  refine (HP.out.2.2.1 (((((((H.out.below ((Below.refl _ _).alloc (Nat.le_refl _) _)).below hb1).below hb2).below hb3).below hb4).below hb5).below hb6)).mono ?_
  rintro e w7 ⟨A_pr, n_pr, c_pr, rfl, o_pr, hb7⟩
  clear x0 x3
  obtain ⟨he1, he2⟩ := HE1.out
  have he1' := lay he1
  have he2' := lay he2
  clear HE1
  rcases HL4.out with ⟨rfl, h4⟩ | ⟨rfl, h4⟩
  · skip
    have H4 := Lib.hid h4
    clear h4
    go_wp2_with fail
    refine (rtrim1_any ((((((((H.out.below ((Below.refl _ _).alloc (Nat.le_refl _) _)).below hb1).below hb2).below hb3).below hb4).below hb5).below hb6).below hb7) (by omega)).mono ?_
    rintro e w8 ⟨A_t0, n_t0, c_t0, rfl, o_t0, hb8⟩
    have HO : Hid (AllL 22 w.heap.size w8 [((A_t0, n_t0, c_t0), strip xs), ((A_sm, n_sm, c_sm), zsA), ((A_df, n_df, c_df), zsB), ((A_pr, n_pr, c_pr), zsM), ((A_ms, n_ms, c_ms), zs1), ((A_dv, n_dv, c_dv), zs2), ((A_sl, n_sl, c_sl), zs3), ((A_sr, n_sr, c_sr), zs4)]) := ⟨(o_t0.mono (bt (bt (bt (bt (bt (bt (bt ((Below.refl _ _).alloc (Nat.le_refl _) _) hb1) hb2) hb3) hb4) hb5) hb6) hb7).size), ((((o_sm.mono (bt (bt (bt (bt ((Below.refl _ _).alloc (Nat.le_refl _) _) hb1) hb2) hb3) hb4).size).below hb6).below hb7).below hb8), (((o_df.mono (bt (bt (bt (bt (bt ((Below.refl _ _).alloc (Nat.le_refl _) _) hb1) hb2) hb3) hb4) hb5).size).below hb7).below hb8), ((o_pr.mono (bt (bt (bt (bt (bt (bt ((Below.refl _ _).alloc (Nat.le_refl _) _) hb1) hb2) hb3) hb4) hb5) hb6).size).below hb8), ((((((((o_ms.mono ((Below.refl _ _).alloc (Nat.le_refl _) _).size).below hb2).below hb3).below hb4).below hb5).below hb6).below hb7).below hb8), (((((((o_dv.mono (bt ((Below.refl _ _).alloc (Nat.le_refl _) _) hb1).size).below hb3).below hb4).below hb5).below hb6).below hb7).below hb8), ((((((o_sl.mono (bt (bt ((Below.refl _ _).alloc (Nat.le_refl _) _) hb1) hb2).size).below hb4).below hb5).below hb6).below hb7).below hb8), (((((o_sr.mono (bt (bt (bt ((Below.refl _ _).alloc (Nat.le_refl _) _) hb1) hb2) hb3).size).below hb5).below hb6).below hb7).below hb8), trivial⟩
    have HBL := Lib.hid (bt (bt (bt (bt (bt (bt (bt (bt ((Below.refl _ _).alloc (Nat.le_refl _) _) hb1) hb2) hb3) hb4) hb5) hb6) hb7) hb8)
    go_wp2_with fail
    refine (CCM.out _ _ _ _ _ ((((((((((H.out.below ((Below.refl _ _).alloc (Nat.le_refl _) _)).below hb1).below hb2).below hb3).below hb4).below hb5).below hb6).below hb7).below hb8).below ((Below.refl _ _).alloc (Nat.le_refl _) (.cells #[.slice A_t0 n_t0 c_t0, .slice A_sm n_sm c_sm, .slice A_df n_df c_df, .slice A_pr n_pr c_pr, .slice A_ms n_ms c_ms, .slice A_dv n_dv c_dv, .slice A_sl n_sl c_sl, .slice A_sr n_sr c_sr] 23))) ((((((((((H'.out.below ((Below.refl _ _).alloc (Nat.le_refl _) _)).below hb1).below hb2).below hb3).below hb4).below hb5).below hb6).below hb7).below hb8).below ((Below.refl _ _).alloc (Nat.le_refl _) (.cells #[.slice A_t0 n_t0 c_t0, .slice A_sm n_sm c_sm, .slice A_df n_df c_df, .slice A_pr n_pr c_pr, .slice A_ms n_ms c_ms, .slice A_dv n_dv c_dv, .slice A_sl n_sl c_sl, .slice A_sr n_sr c_sr] 23)))).mono ?_
    rintro e wc ⟨rfl, hbc⟩
    have hk5 := HK5.out
    go_wp2_with fail
    refine (rbits1_any (((((((((((H.out.below ((Below.refl _ _).alloc (Nat.le_refl _) _)).below hb1).below hb2).below hb3).below hb4).below hb5).below hb6).below hb7).below hb8).below ((Below.refl _ _).alloc (Nat.le_refl _) (.cells #[.slice A_t0 n_t0 c_t0, .slice A_sm n_sm c_sm, .slice A_df n_df c_df, .slice A_pr n_pr c_pr, .slice A_ms n_ms c_ms, .slice A_dv n_dv c_dv, .slice A_sl n_sl c_sl, .slice A_sr n_sr c_sr] 23))).below hbc) HA.out (by omega)).mono ?_
    rintro e w9 ⟨rfl, hb9⟩
    go_wp2_with fail
    refine (rzeros1_any ((((((((((((H.out.below ((Below.refl _ _).alloc (Nat.le_refl _) _)).below hb1).below hb2).below hb3).below hb4).below hb5).below hb6).below hb7).below hb8).below ((Below.refl _ _).alloc (Nat.le_refl _) (.cells #[.slice A_t0 n_t0 c_t0, .slice A_sm n_sm c_sm, .slice A_df n_df c_df, .slice A_pr n_pr c_pr, .slice A_ms n_ms c_ms, .slice A_dv n_dv c_dv, .slice A_sl n_sl c_sl, .slice A_sr n_sr c_sr] 23))).below hbc).below hb9) HA.out (by omega)).mono ?_
    rintro e w10 ⟨rfl, hb10⟩
    have HBE := Lib.hid (bt (bt (bt (bt (bt (bt (bt (bt (bt (bt (bt (bt ((Below.refl _ _).alloc (Nat.le_refl _) _) hb1) hb2) hb3) hb4) hb5) hb6) hb7) hb8) ((Below.refl _ _).alloc (Nat.le_refl _) (.cells #[.slice A_t0 n_t0 c_t0, .slice A_sm n_sm c_sm, .slice A_df n_df c_df, .slice A_pr n_pr c_pr, .slice A_ms n_ms c_ms, .slice A_dv n_dv c_dv, .slice A_sl n_sl c_sl, .slice A_sr n_sr c_sr] 23))) hbc) hb9) hb10)
    obtain ⟨hk9, hk10⟩ := HK9.out
    have hk9' := lay hk9
    have hk10' := lay hk10
    go_wp2
    go_ret2
    have h4 := H4.out
    subst h4
    exact ⟨_, _, [(A_t0, n_t0, c_t0), (A_sm, n_sm, c_sm), (A_df, n_df, c_df), (A_pr, n_pr, c_pr), (A_ms, n_ms, c_ms), (A_dv, n_dv, c_dv), (A_sl, n_sl, c_sl), (A_sr, n_sr, c_sr)], _, _, rfl, ⟨((((RowV.lit (T := 23) (B := w.heap.size) w8 [.slice A_t0 n_t0 c_t0, .slice A_sm n_sm c_sm, .slice A_df n_df c_df, .slice A_pr n_pr c_pr, .slice A_ms n_ms c_ms, .slice A_dv n_dv c_dv, .slice A_sl n_sl c_sl, .slice A_sr n_sr c_sr] rfl (by simp) HBL.out.size).below hbc).below hb9).below hb10).below (belowA _ _), ((((HO.out.els.below (belowA _ (.cells #[.slice A_t0 n_t0 c_t0, .slice A_sm n_sm c_sm, .slice A_df n_df c_df, .slice A_pr n_pr c_pr, .slice A_ms n_ms c_ms, .slice A_dv n_dv c_dv, .slice A_sl n_sl c_sl, .slice A_sr n_sr c_sr] 23))).below hbc).below hb9).below hb10).below (belowA _ _)⟩, Rd.litn (k := .u64) (t := 22) _ [0, cA, cB, cM, e1, e2, u3, (u4 + 1), k5, k9, k10] (by simp) (by simp), HBE.out.alloc HBE.out.size _⟩
  · have H4 := Lib.hid h4
    clear h4
    go_wp2_with fail
    refine (rtrim1_any ((((((((H.out.below ((Below.refl _ _).alloc (Nat.le_refl _) _)).below hb1).below hb2).below hb3).below hb4).below hb5).below hb6).below hb7) (by omega)).mono ?_
    rintro e w11 ⟨A_t0, n_t0, c_t0, rfl, o_t0, hb11⟩
    have HO : Hid (AllL 22 w.heap.size w11 [((A_t0, n_t0, c_t0), strip xs), ((A_sm, n_sm, c_sm), zsA), ((A_df, n_df, c_df), zsB), ((A_pr, n_pr, c_pr), zsM), ((A_ms, n_ms, c_ms), zs1), ((A_dv, n_dv, c_dv), zs2), ((A_sl, n_sl, c_sl), zs3), ((A_sr, n_sr, c_sr), zs4)]) := ⟨(o_t0.mono (bt (bt (bt (bt (bt (bt (bt ((Below.refl _ _).alloc (Nat.le_refl _) _) hb1) hb2) hb3) hb4) hb5) hb6) hb7).size), ((((o_sm.mono (bt (bt (bt (bt ((Below.refl _ _).alloc (Nat.le_refl _) _) hb1) hb2) hb3) hb4).size).below hb6).below hb7).below hb11), (((o_df.mono (bt (bt (bt (bt (bt ((Below.refl _ _).alloc (Nat.le_refl _) _) hb1) hb2) hb3) hb4) hb5).size).below hb7).below hb11), ((o_pr.mono (bt (bt (bt (bt (bt (bt ((Below.refl _ _).alloc (Nat.le_refl _) _) hb1) hb2) hb3) hb4) hb5) hb6).size).below hb11), ((((((((o_ms.mono ((Below.refl _ _).alloc (Nat.le_refl _) _).size).below hb2).below hb3).below hb4).below hb5).below hb6).below hb7).below hb11), (((((((o_dv.mono (bt ((Below.refl _ _).alloc (Nat.le_refl _) _) hb1).size).below hb3).below hb4).below hb5).below hb6).below hb7).below hb11), ((((((o_sl.mono (bt (bt ((Below.refl _ _).alloc (Nat.le_refl _) _) hb1) hb2).size).below hb4).below hb5).below hb6).below hb7).below hb11), (((((o_sr.mono (bt (bt (bt ((Below.refl _ _).alloc (Nat.le_refl _) _) hb1) hb2) hb3).size).below hb5).below hb6).below hb7).below hb11), trivial⟩
    have HBL := Lib.hid (bt (bt (bt (bt (bt (bt (bt (bt ((Below.refl _ _).alloc (Nat.le_refl _) _) hb1) hb2) hb3) hb4) hb5) hb6) hb7) hb11)
    go_wp2_with fail
    refine (CCM.out _ _ _ _ _ ((((((((((H.out.below ((Below.refl _ _).alloc (Nat.le_refl _) _)).below hb1).below hb2).below hb3).below hb4).below hb5).below hb6).below hb7).below hb11).below ((Below.refl _ _).alloc (Nat.le_refl _) (.cells #[.slice A_t0 n_t0 c_t0, .slice A_sm n_sm c_sm, .slice A_df n_df c_df, .slice A_pr n_pr c_pr, .slice A_ms n_ms c_ms, .slice A_dv n_dv c_dv, .slice A_sl n_sl c_sl, .slice A_sr n_sr c_sr] 23))) ((((((((((H'.out.below ((Below.refl _ _).alloc (Nat.le_refl _) _)).below hb1).below hb2).below hb3).below hb4).below hb5).below hb6).below hb7).below hb11).below ((Below.refl _ _).alloc (Nat.le_refl _) (.cells #[.slice A_t0 n_t0 c_t0, .slice A_sm n_sm c_sm, .slice A_df n_df c_df, .slice A_pr n_pr c_pr, .slice A_ms n_ms c_ms, .slice A_dv n_dv c_dv, .slice A_sl n_sl c_sl, .slice A_sr n_sr c_sr] 23)))).mono ?_
    rintro e wc ⟨rfl, hbc⟩
    have hk5 := HK5.out
    go_wp2_with fail
    refine (rbits1_any (((((((((((H.out.below ((Below.refl _ _).alloc (Nat.le_refl _) _)).below hb1).below hb2).below hb3).below hb4).below hb5).below hb6).below hb7).below hb11).below ((Below.refl _ _).alloc (Nat.le_refl _) (.cells #[.slice A_t0 n_t0 c_t0, .slice A_sm n_sm c_sm, .slice A_df n_df c_df, .slice A_pr n_pr c_pr, .slice A_ms n_ms c_ms, .slice A_dv n_dv c_dv, .slice A_sl n_sl c_sl, .slice A_sr n_sr c_sr] 23))).below hbc) HA.out (by omega)).mono ?_
    rintro e w12 ⟨rfl, hb12⟩
    go_wp2_with fail
    refine (rzeros1_any ((((((((((((H.out.below ((Below.refl _ _).alloc (Nat.le_refl _) _)).below hb1).below hb2).below hb3).below hb4).below hb5).below hb6).below hb7).below hb11).below ((Below.refl _ _).alloc (Nat.le_refl _) (.cells #[.slice A_t0 n_t0 c_t0, .slice A_sm n_sm c_sm, .slice A_df n_df c_df, .slice A_pr n_pr c_pr, .slice A_ms n_ms c_ms, .slice A_dv n_dv c_dv, .slice A_sl n_sl c_sl, .slice A_sr n_sr c_sr] 23))).below hbc).below hb12) HA.out (by omega)).mono ?_
    rintro e w13 ⟨rfl, hb13⟩
    have HBE := Lib.hid (bt (bt (bt (bt (bt (bt (bt (bt (bt (bt (bt (bt ((Below.refl _ _).alloc (Nat.le_refl _) _) hb1) hb2) hb3) hb4) hb5) hb6) hb7) hb11) ((Below.refl _ _).alloc (Nat.le_refl _) (.cells #[.slice A_t0 n_t0 c_t0, .slice A_sm n_sm c_sm, .slice A_df n_df c_df, .slice A_pr n_pr c_pr, .slice A_ms n_ms c_ms, .slice A_dv n_dv c_dv, .slice A_sl n_sl c_sl, .slice A_sr n_sr c_sr] 23))) hbc) hb12) hb13)
    obtain ⟨hk9, hk10⟩ := HK9.out
    have hk9' := lay hk9
    have hk10' := lay hk10
    go_wp2
    go_ret2
    have h4 := H4.out
    subst h4
    exact ⟨_, _, [(A_t0, n_t0, c_t0), (A_sm, n_sm, c_sm), (A_df, n_df, c_df), (A_pr, n_pr, c_pr), (A_ms, n_ms, c_ms), (A_dv, n_dv, c_dv), (A_sl, n_sl, c_sl), (A_sr, n_sr, c_sr)], _, _, rfl, ⟨((((RowV.lit (T := 23) (B := w.heap.size) w11 [.slice A_t0 n_t0 c_t0, .slice A_sm n_sm c_sm, .slice A_df n_df c_df, .slice A_pr n_pr c_pr, .slice A_ms n_ms c_ms, .slice A_dv n_dv c_dv, .slice A_sl n_sl c_sl, .slice A_sr n_sr c_sr] rfl (by simp) HBL.out.size).below hbc).below hb12).below hb13).below (belowA _ _), ((((HO.out.els.below (belowA _ (.cells #[.slice A_t0 n_t0 c_t0, .slice A_sm n_sm c_sm, .slice A_df n_df c_df, .slice A_pr n_pr c_pr, .slice A_ms n_ms c_ms, .slice A_dv n_dv c_dv, .slice A_sl n_sl c_sl, .slice A_sr n_sr c_sr] 23))).below hbc).below hb12).below hb13).below (belowA _ _)⟩, Rd.litn (k := .u64) (t := 22) _ [0, cA, cB, cM, e1, e2, u3, l4, k5, k9, k10] (by simp) (by simp), HBE.out.alloc HBE.out.size _⟩
theorem cmpN_bd (x y : Nat) : ∃ k : Nat, cmpN x y + 5 = (k : Int) ∧ k ≤ 6 := by
  unfold cmpN
  split
  · exact ⟨4, by omega, by omega⟩
  · split
    · exact ⟨6, by omega, by omega⟩
    · exact ⟨5, by omega, by omega⟩
theorem bits_i64_le (op : BinOp) (x y : Int) : bits op .i64 x y ≤ 9223372036854775807 := by
  have h := wf_bits op .i64 x y
  have h2 : IntKind.i64.min ≤ bits op .i64 x y ∧ bits op .i64 x y ≤ IntKind.i64.max := by simpa [Lit.wf] using h
  have e2 : IntKind.i64.max = 9223372036854775807 := by decide
  omega
/-- told and wanted answer the same lists and words -/
theorem lim_both {n m x c : Nat} {N : Int} {xs ys : List Nat} (ha : All W xs) (hb : All W ys) (hx : x < W) (hc : c < W) (hn : n ≤ 1048576) (hm : m ≤ 1048576) (hxl : xs.length = n) : ∃ (X : List (List Nat)) (ns : List Nat), (∀ i, (X.getD i []).length ≤ 67108864) ∧
    (∀ ⦃A A2 : Option Addr⦄ ⦃ca cb y z : Nat⦄ ⦃V1 V2 : Value⦄ ⦃w : World⦄, TZ w → Rd .u64 w A n ca xs → Rd .u64 w A2 m cb ys → Calls Tryd.prog 6 #[.slice A n ca, .slice A2 m cb, .agg #[.int .u64 (x : Int), .int .u64 (y : Int), .int .u64 (z : Int), .int .u64 (c : Int), V1, V2, .int .i64 N]] w (GTd w X ns)) ∧
    (∀ ⦃A A2 : Option Addr⦄ ⦃ca cb y z : Nat⦄ ⦃V1 V2 : Value⦄ ⦃w : World⦄, Rd .u64 w A n ca xs → Rd .u64 w A2 m cb ys → Calls Tryd.prog 5 #[.slice A n ca, .slice A2 m cb, .agg #[.int .u64 (x : Int), .int .u64 (y : Int), .int .u64 (z : Int), .int .u64 (c : Int), V1, V2, .int .i64 N]] w (GWd w X ns)) := by
  obtain ⟨zs1, v1, u1, l1, hu1, P1, Q1⟩ := msub_bothN (y := x) ha hb hx (n := n) (m := m) (by omega) (by omega)
  obtain ⟨zs2, v2, u2, l2, hu2, P2, Q2⟩ := div_bothN (y := x) ha hx (n := n) (by omega)
  obtain ⟨zs3, u3, l3, hu3, P3, Q3⟩ := shl_bothN (n := n) (bits .and .i64 N 127) ha (by omega)
  obtain ⟨zs4, b4, u4, l4, hu4, P4, Q4⟩ := shr_bothN (n := n) (bits_i64_le .and N 127) ha (by omega)
  obtain ⟨e1, he1, _⟩ := wrap_u64n ((v1 : Int) + (u1 : Int))
  obtain ⟨e2, he2, _⟩ := wrap_u64n ((v2 : Int) + (u2 : Int))
  obtain ⟨k9, hk9, _⟩ := wrap_u64n ((nb (val W xs) : Nat) : Int)
  obtain ⟨k10, hk10, _⟩ := wrap_u64n ((tzn (val W xs) : Nat) : Int)
  obtain ⟨k5, hk5, hk6⟩ := cmpN_bd (val W xs) (val W ys)
  obtain ⟨l5, hl5⟩ : ∃ l5 : Nat, (b4 = true ∧ l5 = u4 + 1) ∨ (b4 = false ∧ l5 = u4) := by
    cases b4
    · exact ⟨u4, .inr ⟨rfl, rfl⟩⟩
    · exact ⟨u4 + 1, .inl ⟨rfl, rfl⟩⟩
  refine ⟨_, _, ?_, fun A A2 ca cb y z V1 V2 w ht h h' => told_any ht h h' ha hb hn hm (fun _ _ _ _ _ h1 h2 => ladd_any _ _ _ _ _ _ _ _ _ h1 h2 ha hb (by omega) (by omega)) (fun _ _ _ _ _ h1 h2 => lsub_any _ _ _ _ _ _ _ _ _ h1 h2 ha hb (by omega) (by omega)) (fun _ _ _ h1 => lmulAdd_any h1 ha rfl hx rfl hc (by omega)) P1 P2 P3 P4 hu1 hu2 hu3 hu4 rfl he1 he2 rfl hk5 hk6 hl5 hk9 hk10,
    fun A A2 ca cb y z V1 V2 w h h' => wanted_any h h' ha hb hn hm (fun _ _ _ _ _ h1 h2 => radd1_any h1 h2 ha hb (by omega) (by omega)) (fun _ _ _ _ _ h1 h2 => rsub1_any h1 h2 ha hb (by omega) (by omega)) (fun _ _ _ h1 => rmulAdd1_any h1 ha hx hc (by omega)) Q1 Q2 Q3 Q4 hu1 hu2 hu3 hu4 rfl he1 he2 rfl hk5 hk6 hl5 hk9 hk10⟩
  intro i
  match i with
  | 0 => have := strip_length_le xs; simp; omega
  | 1 => simp [wds_length]; omega
  | 2 => simp [wds_length]; omega
  | 3 => simp [wds_length]; omega
  | 4 => simp; omega
  | 5 => simp; omega
  | 6 => simp; omega
  | 7 => simp; omega
  | i + 8 => simp
end Go.Proofs.YtfpogghlcodncaaDoor
