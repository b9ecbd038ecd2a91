/-
  RadixPoints.
-/
import Derived.Test.YtjglonmnjcnhbaaDoorDecM
namespace Go.Proofs.YtjglonmnjcnhbaaDoor
open Go.RowKit
set_option linter.unusedVariables false

set_option maxHeartbeats 400000 in
theorem decimal6_neg {v u : Value} {z : Int} {w : World} (h : z < 0) : Calls Tryd.prog 7 #[v, u, .int .i64 z] w (Keeps (.tuple #[.string ByteArray.empty, .int .i64 3]) w) := by
  have d1 : decide (z < 0) = true := by simp; omega
  go_enter Tryd.func7, Tryd.ntmps7
  go_wp2
  go_ret2
  exact ⟨rfl, Below.refl _ _⟩
set_option maxHeartbeats 400000 in
theorem decimal6_big {v u : Value} {z : Int} {w : World} (h : 10000 < z) : Calls Tryd.prog 7 #[v, u, .int .i64 z] w (Keeps (.tuple #[.string ByteArray.empty, .int .i64 13]) w) := by
  obtain ⟨d1, d2⟩ : decide (z < 0) = false ∧ decide (10000 < z) = true := by constructor <;> simp <;> omega
  go_enter Tryd.func7, Tryd.ntmps7
  go_wp2
  go_ret2
  exact ⟨rfl, Below.refl _ _⟩
set_option maxHeartbeats 400000 in
theorem decimal6_zero {v u : Value} {K p : Nat} {p' : Int} {w : World} (h' : Num w u 0 K) (ep : p' = (p : Int)) (hp : p ≤ 10000) (hK : K ≤ 67108864) :
    Calls Tryd.prog 7 #[v, u, .int .i64 p'] w (Keeps (.tuple #[.string ByteArray.empty, .int .i64 1]) w) := by
  subst ep
  have d1 : decide ((p : Int) < 0) = false := by simp
  have d2 : decide ((10000 : Int) < (p : Int)) = false := by simp; omega
  have C0 := Lib.hid (zero5_any (w := w) h' (by omega))
  rw [decide_eq_true (show (0 : Nat) = 0 from rfl)] at C0
  obtain ⟨_, _, _, _, rfl, _⟩ := id h'
  clear h'
  go_enter Tryd.func7, Tryd.ntmps7
  go_wp2_with fail
  refine C0.out.mono ?_
  rintro e w1 ⟨rfl, hb⟩
  have HB := Lib.hid hb
  clear hb
  go_wp2
  go_ret2
  exact ⟨rfl, HB.out⟩
/-- Places at a denominator of 0 -/
def GPx (w : World) (num den : Nat) (e : Ending) (w' : World) : Prop :=
  ∃ (n : Nat) (b : Bool) (er : Int), e = .returned (.tuple #[.int .i64 (n : Int), .bool b, .int .i64 er]) ∧ Below w.heap.size w w' ∧ Hid ((den = 0 ∧ n = 0 ∧ b = false ∧ er = 1) ∨ (0 < den ∧ er = 0 ∧ PlOk (num % den) den (nb den) n b))
theorem GPl.x {w w' : World} {num den : Nat} {e : Ending} (hd : 0 < den) (h : GPl w num den e w') : GPx w num den e w' := by
  obtain ⟨n, b, h1, h2, h3⟩ := h
  exact ⟨n, b, 0, h1, h2, .inr ⟨hd, rfl, h3⟩⟩
theorem plx_uniq {num den n n' : Nat} {b b' : Bool} {er er' : Int} (h : Hid ((den = 0 ∧ n = 0 ∧ b = false ∧ er = 1) ∨ (0 < den ∧ er = 0 ∧ PlOk (num % den) den (nb den) n b)))
    (h' : Hid ((den = 0 ∧ n' = 0 ∧ b' = false ∧ er' = 1) ∨ (0 < den ∧ er' = 0 ∧ PlOk (num % den) den (nb den) n' b'))) : n = n' ∧ b = b' ∧ er = er' := by
  rcases h.out with ⟨h1, rfl, rfl, rfl⟩ | ⟨h1, rfl, h2⟩ <;> rcases h'.out with ⟨k1, rfl, rfl, rfl⟩ | ⟨k1, rfl, k2⟩
  · exact ⟨rfl, rfl, rfl⟩
  · omega
  · omega
  · exact ⟨(h2.uniq k2).1, (h2.uniq k2).2, rfl⟩
set_option maxHeartbeats 1000000 in
theorem placesx_any {v u : Value} {num den L K : Nat} {w : World} (h : Num w v num L) (h' : Num w u den K) (hL : L ≤ 67108864) (hK : K ≤ 67108864) :
    Calls Tryd.prog 10 #[v, u] w (GPx w num den) := by
  rcases Nat.eq_zero_or_pos den with h0 | h0
  · subst h0
    have C := Lib.hid (quo_zero h h' rfl (by omega) (by omega))
    obtain ⟨_, _, _, _, rfl, _⟩ := id h
    obtain ⟨_, _, _, _, rfl, _⟩ := id h'
    clear h h'
    go_enter Tryd.func10, Tryd.ntmps10
    go_wp2_with fail
    refine C.out.mono ?_
    rintro e w1 ⟨A, n, c, A2, n2, c2, rfl, o1, o2, hb, _, _⟩
    have HB := Lib.hid hb
    clear hb o1 o2
    go_wp2
    go_ret3
    exact ⟨0, false, 1, rfl, HB.out, .inl ⟨rfl, rfl, rfl, rfl⟩⟩
  · exact (places_any h h' h0 hL hK).mono fun e w' hg => hg.x h0
set_option maxHeartbeats 1000000 in
theorem places6x_any {v u : Value} {num den L K : Nat} {w : World} (h : Num w v num L) (h' : Num w u den K) (hL1 : 1 ≤ L) (hK1 : 1 ≤ K) (hL : L ≤ 67108864) (hK : K ≤ 67108864) :
    Calls Tryd.prog 8 #[v, u] w (GPx w num den) := by
  rcases Nat.eq_zero_or_pos den with h0 | h0
  · subst h0
    have C0 := Lib.hid (zero5_any (w := w) h' (by omega))
    rw [decide_eq_true (show (0 : Nat) = 0 from rfl)] at C0
    obtain ⟨_, _, _, _, rfl, _⟩ := id h
    obtain ⟨_, _, _, _, rfl, _⟩ := id h'
    clear h h'
    go_enter Tryd.func8, Tryd.ntmps8
    go_wp2_with fail
    refine C0.out.mono ?_
    rintro e w1 ⟨rfl, hb⟩
    have HB := Lib.hid hb
    clear hb
    go_wp2
    go_ret3
    exact ⟨0, false, 1, rfl, HB.out, .inl ⟨rfl, rfl, rfl, rfl⟩⟩
  · exact (places6_any h h' h0 hL1 hK1 hL hK).mono fun e w' hg => hg.x h0
theorem dec_both (num den : Nat) (z : Int) : ∃ (T : ByteArray) (ec : Int),
    (∀ (w : World) (v u : Value) (L K : Nat), Num w v num L → Num w u den K → SG w → L ≤ 1048576 → K ≤ 1048576 → Calls Tryd.prog 6 #[v, u, .int .i64 z] w (Keeps (.tuple #[.string T, .int .i64 ec]) w)) ∧
    (∀ (w : World) (v u : Value) (L K : Nat), Num w v num L → Num w u den K → 1 ≤ L → 1 ≤ K → L ≤ 1048576 → K ≤ 1048576 → Calls Tryd.prog 7 #[v, u, .int .i64 z] w (Keeps (.tuple #[.string T, .int .i64 ec]) w)) := by
  by_cases h1 : z < 0
  · exact ⟨_, _, fun w v u L K _ _ _ _ _ => decimal_neg h1, fun w v u L K _ _ _ _ _ _ => decimal6_neg h1⟩
  · by_cases h2 : 10000 < z
    · exact ⟨_, _, fun w v u L K _ _ _ _ _ => decimal_big h2, fun w v u L K _ _ _ _ _ _ => decimal6_big h2⟩
    · obtain ⟨p, rfl⟩ : ∃ p : Nat, z = (p : Int) := ⟨z.toNat, by omega⟩
      rcases Nat.eq_zero_or_pos den with h0 | h0
      · subst h0
        exact ⟨_, _, fun w v u L K h h' _ _ _ => decimal_zero h h' rfl (by omega) (by omega) (by omega), fun w v u L K h h' _ _ _ _ => decimal6_zero h' rfl (by omega) (by omega)⟩
      · exact ⟨_, _, fun w v u L K h h' hs _ _ => decimal_any h h' hs rfl h0 (by omega) (by omega) (by omega), fun w v u L K h h' _ _ _ _ => decimal6_any h h' rfl h0 (by omega) (by omega) (by omega) (by omega) (by omega)⟩
theorem dec_third : decT (val W [1]) (val W [3]) 4 = ⟨#[48, 46, 51, 51, 51, 51]⟩ := by
  simp only [val, Nat.mul_zero, Nat.add_zero]
  rfl
theorem decimal_third {v u : Value} {w : World} {L K : Nat} (h : Num w v (val W [1]) L) (h' : Num w u (val W [3]) K) (hs : SG w) (hL : L ≤ 1048576) (hK : K ≤ 1048576) :
    Calls Tryd.prog 6 #[v, u, .int .i64 4] w (Keeps (.tuple #[.string ⟨#[48, 46, 51, 51, 51, 51]⟩, .int .i64 0]) w) := by
  have := decimal_any (p := 4) (p' := 4) h h' hs rfl (by simp [val]) (by omega) (by omega) (by omega)
  rwa [dec_third] at this
set_option maxHeartbeats 4000000 in
set_option maxRecDepth 100000 in
theorem radixPoints_any {v u : Value} {x y L K : Nat} {z : Int} {w : World} (h : Num w v x L) (h' : Num w u y K) (hs : SG w) (hL1 : 1 ≤ L) (hL : L ≤ 1048576) (hK1 : 1 ≤ K) (hK : K ≤ 1048576) :
    Calls Tryd.prog 3 #[v, u, .int .i64 z] w (Keeps (.bool true) w) := by
  have H := Lib.hid h
  have H' := Lib.hid h'
  have HS := Lib.hid hs
  obtain ⟨_, _, _, _, rfl, _⟩ := id h
  obtain ⟨_, _, _, _, rfl, _⟩ := id h'
  clear h h' hs
  by_cases g : 400 < z ∧ z ≤ 10000
  · have d1 : decide (400 < z) = true := by simp; omega
    have d2 : decide (z ≤ 10000) = true := by simp; omega
    obtain ⟨T, ec, CD⟩ := dec_both x y 400
    have CD := Lib.hid CD
    go_enter Tryd.func3, Tryd.ntmps3
    go_wp2_with fail
    refine (decimal_third (((Num.lit (t := 27) _ [1] (by simp) (by simp [W_eq, All])).mono (L' := 1) (by simp)).below ((Below.refl _ _).alloc (Nat.le_refl _) _)) ((Num.lit (t := 27) _ [3] (by simp) (by simp [W_eq, All])).mono (L' := 1) (by simp)) ((HS.out.below ((Below.refl _ _).alloc (Nat.le_refl _) _)).below ((Below.refl _ _).alloc (Nat.le_refl _) _)) (by omega) (by omega)).mono ?_
    rintro e w1 ⟨rfl, hb1⟩
    go_wp2_with fail
    refine (CD.out.2 _ _ _ _ _ (((H.out.below ((Below.refl _ _).alloc (Nat.le_refl _) _)).below ((Below.refl _ _).alloc (Nat.le_refl _) _)).below hb1) (((H'.out.below ((Below.refl _ _).alloc (Nat.le_refl _) _)).below ((Below.refl _ _).alloc (Nat.le_refl _) _)).below hb1) hL1 hK1 (by omega) (by omega)).mono ?_
    rintro e w2 ⟨rfl, hb2⟩
    go_wp2_with fail
    refine (places6x_any ((((H.out.below ((Below.refl _ _).alloc (Nat.le_refl _) _)).below ((Below.refl _ _).alloc (Nat.le_refl _) _)).below hb1).below hb2) ((((H'.out.below ((Below.refl _ _).alloc (Nat.le_refl _) _)).below ((Below.refl _ _).alloc (Nat.le_refl _) _)).below hb1).below hb2) hL1 hK1 (by omega) (by omega)).mono ?_
    rintro e wp ⟨nx, bx, ex, rfl, hbp, px⟩
    go_wp2_with fail
    refine (CD.out.1 _ _ _ _ _ (((((H.out.below ((Below.refl _ _).alloc (Nat.le_refl _) _)).below ((Below.refl _ _).alloc (Nat.le_refl _) _)).below hb1).below hb2).below hbp) (((((H'.out.below ((Below.refl _ _).alloc (Nat.le_refl _) _)).below ((Below.refl _ _).alloc (Nat.le_refl _) _)).below hb1).below hb2).below hbp) (((((HS.out.below ((Below.refl _ _).alloc (Nat.le_refl _) _)).below ((Below.refl _ _).alloc (Nat.le_refl _) _)).below hb1).below hb2).below hbp) (by omega) (by omega)).mono ?_
    rintro e w3 ⟨rfl, hb3⟩
    go_wp2_with fail
    refine (rplain_any).mono ?_
    rintro e w' ⟨rfl, rfl⟩
    go_wp2_with fail
    refine (placesx_any ((((((H.out.below ((Below.refl _ _).alloc (Nat.le_refl _) _)).below ((Below.refl _ _).alloc (Nat.le_refl _) _)).below hb1).below hb2).below hbp).below hb3) ((((((H'.out.below ((Below.refl _ _).alloc (Nat.le_refl _) _)).below ((Below.refl _ _).alloc (Nat.le_refl _) _)).below hb1).below hb2).below hbp).below hb3) (by omega) (by omega)).mono ?_
    rintro e wq ⟨ny, by_, ey, rfl, hbq, py⟩
    obtain ⟨rfl, rfl, rfl⟩ := plx_uniq px py
    go_wp2_with fail
    refine (rplain_any).mono ?_
    rintro e w' ⟨rfl, rfl⟩
    have HEND := Lib.hid (bt (bt (bt (bt (bt (bt ((Below.refl _ _).alloc (Nat.le_refl _) _) ((Below.refl _ _).alloc (Nat.le_refl _) _)) hb1) hb2) hbp) hb3) hbq)
    go_wp2
    go_ret
    exact ⟨by simp, HEND.out⟩
  · have dd : (decide (400 < z) && decide (z ≤ 10000)) = false := by
      rw [Bool.and_eq_false_iff]; simp; omega
    obtain ⟨T, ec, CD⟩ := dec_both x y z
    have CD := Lib.hid CD
    by_cases g1 : 400 < z
    · have d1 : decide (400 < z) = true := by simp; omega
      have d2 : decide (z ≤ 10000) = false := by simp; omega
      go_enter Tryd.func3, Tryd.ntmps3
      go_wp2_with fail
      refine (decimal_third (((Num.lit (t := 27) _ [1] (by simp) (by simp [W_eq, All])).mono (L' := 1) (by simp)).below ((Below.refl _ _).alloc (Nat.le_refl _) _)) ((Num.lit (t := 27) _ [3] (by simp) (by simp [W_eq, All])).mono (L' := 1) (by simp)) ((HS.out.below ((Below.refl _ _).alloc (Nat.le_refl _) _)).below ((Below.refl _ _).alloc (Nat.le_refl _) _)) (by omega) (by omega)).mono ?_
      rintro e w6 ⟨rfl, hb6⟩
      go_wp2_with fail
      refine (CD.out.2 _ _ _ _ _ (((H.out.below ((Below.refl _ _).alloc (Nat.le_refl _) _)).below ((Below.refl _ _).alloc (Nat.le_refl _) _)).below hb6) (((H'.out.below ((Below.refl _ _).alloc (Nat.le_refl _) _)).below ((Below.refl _ _).alloc (Nat.le_refl _) _)).below hb6) hL1 hK1 (by omega) (by omega)).mono ?_
      rintro e w7 ⟨rfl, hb7⟩
      go_wp2_with fail
      refine (places6x_any ((((H.out.below ((Below.refl _ _).alloc (Nat.le_refl _) _)).below ((Below.refl _ _).alloc (Nat.le_refl _) _)).below hb6).below hb7) ((((H'.out.below ((Below.refl _ _).alloc (Nat.le_refl _) _)).below ((Below.refl _ _).alloc (Nat.le_refl _) _)).below hb6).below hb7) hL1 hK1 (by omega) (by omega)).mono ?_
      rintro e wp ⟨nx, bx, ex, rfl, hbp, px⟩
      go_wp2_with fail
      refine (CD.out.1 _ _ _ _ _ (((((H.out.below ((Below.refl _ _).alloc (Nat.le_refl _) _)).below ((Below.refl _ _).alloc (Nat.le_refl _) _)).below hb6).below hb7).below hbp) (((((H'.out.below ((Below.refl _ _).alloc (Nat.le_refl _) _)).below ((Below.refl _ _).alloc (Nat.le_refl _) _)).below hb6).below hb7).below hbp) (((((HS.out.below ((Below.refl _ _).alloc (Nat.le_refl _) _)).below ((Below.refl _ _).alloc (Nat.le_refl _) _)).below hb6).below hb7).below hbp) (by omega) (by omega)).mono ?_
      rintro e w8 ⟨rfl, hb8⟩
      go_wp2_with fail
      refine (rplain_any).mono ?_
      rintro e w' ⟨rfl, rfl⟩
      go_wp2_with fail
      refine (placesx_any ((((((H.out.below ((Below.refl _ _).alloc (Nat.le_refl _) _)).below ((Below.refl _ _).alloc (Nat.le_refl _) _)).below hb6).below hb7).below hbp).below hb8) ((((((H'.out.below ((Below.refl _ _).alloc (Nat.le_refl _) _)).below ((Below.refl _ _).alloc (Nat.le_refl _) _)).below hb6).below hb7).below hbp).below hb8) (by omega) (by omega)).mono ?_
      rintro e wq ⟨ny, by_, ey, rfl, hbq, py⟩
      obtain ⟨rfl, rfl, rfl⟩ := plx_uniq px py
      go_wp2_with fail
      refine (rplain_any).mono ?_
      rintro e w' ⟨rfl, rfl⟩
      have HEND := Lib.hid (bt (bt (bt (bt (bt (bt ((Below.refl _ _).alloc (Nat.le_refl _) _) ((Below.refl _ _).alloc (Nat.le_refl _) _)) hb6) hb7) hbp) hb8) hbq)
      go_wp2
      go_ret
      exact ⟨by simp, HEND.out⟩
    · have d1 : decide (400 < z) = false := by simp; omega
      go_enter Tryd.func3, Tryd.ntmps3
      go_wp2_with fail
      refine (decimal_third (((Num.lit (t := 27) _ [1] (by simp) (by simp [W_eq, All])).mono (L' := 1) (by simp)).below ((Below.refl _ _).alloc (Nat.le_refl _) _)) ((Num.lit (t := 27) _ [3] (by simp) (by simp [W_eq, All])).mono (L' := 1) (by simp)) ((HS.out.below ((Below.refl _ _).alloc (Nat.le_refl _) _)).below ((Below.refl _ _).alloc (Nat.le_refl _) _)) (by omega) (by omega)).mono ?_
      rintro e w11 ⟨rfl, hb11⟩
      go_wp2_with fail
      refine (CD.out.2 _ _ _ _ _ (((H.out.below ((Below.refl _ _).alloc (Nat.le_refl _) _)).below ((Below.refl _ _).alloc (Nat.le_refl _) _)).below hb11) (((H'.out.below ((Below.refl _ _).alloc (Nat.le_refl _) _)).below ((Below.refl _ _).alloc (Nat.le_refl _) _)).below hb11) hL1 hK1 (by omega) (by omega)).mono ?_
      rintro e w12 ⟨rfl, hb12⟩
      go_wp2_with fail
      refine (places6x_any ((((H.out.below ((Below.refl _ _).alloc (Nat.le_refl _) _)).below ((Below.refl _ _).alloc (Nat.le_refl _) _)).below hb11).below hb12) ((((H'.out.below ((Below.refl _ _).alloc (Nat.le_refl _) _)).below ((Below.refl _ _).alloc (Nat.le_refl _) _)).below hb11).below hb12) hL1 hK1 (by omega) (by omega)).mono ?_
      rintro e wp ⟨nx, bx, ex, rfl, hbp, px⟩
      go_wp2_with fail
      refine (CD.out.1 _ _ _ _ _ (((((H.out.below ((Below.refl _ _).alloc (Nat.le_refl _) _)).below ((Below.refl _ _).alloc (Nat.le_refl _) _)).below hb11).below hb12).below hbp) (((((H'.out.below ((Below.refl _ _).alloc (Nat.le_refl _) _)).below ((Below.refl _ _).alloc (Nat.le_refl _) _)).below hb11).below hb12).below hbp) (((((HS.out.below ((Below.refl _ _).alloc (Nat.le_refl _) _)).below ((Below.refl _ _).alloc (Nat.le_refl _) _)).below hb11).below hb12).below hbp) (by omega) (by omega)).mono ?_
      rintro e w13 ⟨rfl, hb13⟩
      go_wp2_with fail
      refine (rplain_any).mono ?_
      rintro e w' ⟨rfl, rfl⟩
      go_wp2_with fail
      refine (placesx_any ((((((H.out.below ((Below.refl _ _).alloc (Nat.le_refl _) _)).below ((Below.refl _ _).alloc (Nat.le_refl _) _)).below hb11).below hb12).below hbp).below hb13) ((((((H'.out.below ((Below.refl _ _).alloc (Nat.le_refl _) _)).below ((Below.refl _ _).alloc (Nat.le_refl _) _)).below hb11).below hb12).below hbp).below hb13) (by omega) (by omega)).mono ?_
      rintro e wq ⟨ny, by_, ey, rfl, hbq, py⟩
      obtain ⟨rfl, rfl, rfl⟩ := plx_uniq px py
      go_wp2_with fail
      refine (rplain_any).mono ?_
      rintro e w' ⟨rfl, rfl⟩
      have HEND := Lib.hid (bt (bt (bt (bt (bt (bt ((Below.refl _ _).alloc (Nat.le_refl _) _) ((Below.refl _ _).alloc (Nat.le_refl _) _)) hb11) hb12) hbp) hb13) hbq)
      go_wp2
      go_ret
      exact ⟨by simp, HEND.out⟩
end Go.Proofs.YtjglonmnjcnhbaaDoor
