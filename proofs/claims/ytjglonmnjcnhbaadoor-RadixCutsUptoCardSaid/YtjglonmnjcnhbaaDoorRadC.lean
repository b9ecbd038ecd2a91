/-
  RadixCuts.
-/
import Derived.Test.YtjglonmnjcnhbaaDoorDecM
namespace Go.Proofs.YtjglonmnjcnhbaaDoor
open Go.RowKit
set_option linter.unusedVariables false

/-- zeros in front of a number's text -/
def zt (j x : Nat) : ByteArray := ⟨(List.replicate j 48 ++ txtl 10 x).toArray⟩
theorem zt_size (j x : Nat) : (zt j x).size = j + (txt 10 x).size := by
  rw [zt, txt, bsize, bsize, List.length_append, List.length_replicate]
theorem zt_zero (x : Nat) : zt 0 x = txt 10 x := by simp [zt, txt]
theorem txt_pos1 (x : Nat) : 0 < (txt 10 x).size := (txt_ok (b := 10) (by omega) (by omega) x).1.1
theorem zt_step (j x : Nat) : byt (zt (j + 1) x) 0 = 48 ∧ (zt (j + 1) x).extract 1 (zt (j + 1) x).size = zt j x ∧ 1 < (zt (j + 1) x).size := by
  refine ⟨?_, ?_, by rw [zt_size]; have := txt_pos1 x; omega⟩
  · rw [zt, List.replicate_succ, List.cons_append, byt_list (by simp)]; rfl
  · rw [zt_size, zt, bext, zt, List.replicate_succ, List.cons_append, List.drop_succ_cons, List.drop_zero, List.take_of_length_le]
    rw [txt, bsize, List.length_append, List.length_replicate]; omega
theorem txt_first (x : Nat) (h : 1 < (txt 10 x).size) : byt (txt 10 x) 0 ≠ 48 := fun e => (txt_ok (b := 10) (by omega) (by omega) x).1.2.1 ⟨h, e⟩
theorem cut_parts {num den p : Nat} (hd : 0 < den) (hp : 0 < p) : ∃ (F G : ByteArray) (m k : Nat),
    (decT num den (p + 1)).size = (decT num den p).size + 1 ∧ (decT num den (p + 1)).extract 0 (decT num den p).size = decT num den p ∧ (decT num den p).size = m + 1 + p ∧ 1 ≤ m ∧ m = (txt 10 (num / den)).size ∧
      byt (decT num den p) m = 46 ∧ (decT num den p).extract 0 m = F ∧ (decT num den p).extract (m + 1) (decT num den p).size = G ∧ F ++ G = zt k (num * 10 ^ p / den) ∧ F.size = m ∧ G.size = p := by
  have h := txt_dec (num := num) hd hp
  have hl := decl_len (num % den) den p
  have hf := txt_pos1 (num / den)
  have e1 : decl (num % den) den (p + 1) = decl (num % den) den p ++ [10 * (num % den * 10 ^ p % den) / den] := rfl
  rw [decT, if_neg (by omega), decT, if_neg (by omega), e1]
  unfold zt
  rw [txt, bsize] at *
  generalize 10 * (num % den * 10 ^ p % den) / den = x at *
  rw [padl] at h
  generalize txtl 10 (num * 10 ^ p / den) = s at *
  generalize txtl 10 (num / den) = f at *
  generalize decl (num % den) den p = g at *
  rw [List.map_append]
  have hgl : (g.map sg8).length = p := by rw [List.length_map, hl]
  generalize g.map sg8 = g at *
  refine ⟨⟨f.toArray⟩, ⟨g.toArray⟩, f.length, p + 1 - s.length, ?_, ?_, ?_, hf, rfl, ?_, ?_, ?_, ?_, ?_, ?_⟩
  · simp only [bsize, List.length_append, List.length_cons, List.length_map, List.length_nil]; omega
  · rw [bext, bsize, List.drop_zero, Nat.sub_zero]
    have e : f ++ 46 :: (g ++ List.map sg8 [x]) = (f ++ 46 :: g) ++ List.map sg8 [x] := by simp
    rw [e, List.take_append_of_le_length (Nat.le_refl _), List.take_length]
  · rw [bsize]; simp; omega
  · rw [byt_list (by simp)]
    rw [List.getElem_append_right (Nat.le_refl _)]; simp
  · rw [bext]; simp
  · rw [bext, bsize]; simp
    rw [List.take_of_length_le (by omega)]
  · rw [ByteArray.mk_append_mk, h]
  · rw [bsize]
  · rw [bsize, hgl]
theorem dec_half : decT (val W [7]) (val W [2]) 3 = ⟨#[51, 46, 53, 48, 48]⟩ := by
  simp only [val, Nat.mul_zero, Nat.add_zero]
  rw [decT, if_neg (by omega), txtl, if_neg (by decide)]
  have := norm_dg (b := 10) (xs := [3]) (by omega) (by simp [All]) (by simp [Norm, strip])
  rw [show val 10 [3] = 7 / 2 by simp [val]] at this
  rw [← this]
  rfl
theorem decimal_half {v u : Value} {w : World} {L K : Nat} (h : Num w v (val W [7]) L) (h' : Num w u (val W [2]) K) (hs : SG w) (hL : L ≤ 1048576) (hK : K ≤ 1048576) :
    Calls Tryd.prog 6 #[v, u, .int .i64 3] w (Keeps (.tuple #[.string ⟨#[51, 46, 53, 48, 48]⟩, .int .i64 0]) w) := by
  have := decimal_any (p := 3) (p' := 3) h h' hs rfl (by simp [val]) (by omega) (by omega) (by omega)
  rwa [dec_half] at this
def szOf : Value → Nat
  | .string s => s.size
  | _ => 0
/-- the three comparisons -/
theorem cuts_cmp {num den p x : Nat} (hd : 0 < den) (hx : x = num * 10 ^ p / den) : decide ((0 : Int) < cmpN (x * den) (num * 10 ^ p)) = false ∧ decide ((0 : Int) ≤ cmpN (num * 10 ^ p) ((x + 1) * den)) = false ∧
    (cmpN (x * den) (num * 10 ^ p) == 0) = decide (num * 10 ^ p % den = 0) := by
  have h1 := Nat.div_add_mod (num * 10 ^ p) den
  have h2 := Nat.mod_lt (num * 10 ^ p) hd
  rw [← hx, Nat.mul_comm] at h1
  rw [Nat.add_mul, Nat.one_mul]
  generalize num * 10 ^ p = y at *
  generalize y % den = r at *
  generalize x * den = z at *
  refine ⟨?_, ?_, ?_⟩ <;> unfold cmpN
  · split
    · rfl
    · rw [if_neg (by omega)]; rfl
  · rw [if_pos (by omega)]; rfl
  · by_cases hr : r = 0
    · rw [if_neg (by omega), if_neg (by omega), decide_eq_true hr]; rfl
    · rw [if_pos (by omega), decide_eq_false hr]; rfl
set_option maxHeartbeats 8000000 in
set_option maxRecDepth 100000 in
theorem radixCuts_any {v u : Value} {x y L K : Nat} {z : Int} {w : World} (h : Num w v x L) (h' : Num w u y K) (hs : SG w) (hL1 : 1 ≤ L) (hL : L ≤ 1048576) (hK1 : 1 ≤ K) (hK : K ≤ 1048576) :
    Calls Tryd.prog 4 #[v, u, .int .i64 z] w (Keeps (.bool true) w) := by
  have H := Lib.hid h
  have H' := Lib.hid h'
  have HS := Lib.hid hs
  have HXL := Lib.hid h.lt
  obtain ⟨_, _, _, _, rfl, _⟩ := id h
  obtain ⟨_, _, _, _, rfl, _⟩ := id h'
  clear h h' hs
  rcases Nat.eq_zero_or_pos y with hy | hy
  · subst hy
    have CZ : Hid (∀ (w : World) (v : Value), Num w v 0 K → Calls Tryd.prog 11 #[v] w (Keeps (.bool true) w)) := fun w v h => by
      have := zero5_any h (by omega)
      rwa [decide_eq_true rfl] at this
    go_enter Tryd.func4, Tryd.ntmps4
    go_wp2_with fail
    refine (decimal_half (((Num.lit (t := 27) _ [7] (by simp) (by simp [W_eq, All])).mono (L' := 1) (by simp)).below ((Below.refl _ _).alloc (Nat.le_refl _) _)) ((Num.lit (t := 27) _ [2] (by simp) (by simp [W_eq, All])).mono (L' := 1) (by simp)) ((HS.out.below ((Below.refl _ _).alloc (Nat.le_refl _) _)).below ((Below.refl _ _).alloc (Nat.le_refl _) _)) (by omega) (by omega)).mono ?_
    rintro e w1 ⟨rfl, hb1⟩
    go_wp2_with fail
    refine (CZ.out _ _ (((H'.out.below ((Below.refl _ _).alloc (Nat.le_refl _) _)).below ((Below.refl _ _).alloc (Nat.le_refl _) _)).below hb1)).mono ?_
    rintro e w2 ⟨rfl, hb2⟩
    go_wp2_with fail
    refine (decimal_zero (p := 1) ((((H.out.below ((Below.refl _ _).alloc (Nat.le_refl _) _)).below ((Below.refl _ _).alloc (Nat.le_refl _) _)).below hb1).below hb2) ((((H'.out.below ((Below.refl _ _).alloc (Nat.le_refl _) _)).below ((Below.refl _ _).alloc (Nat.le_refl _) _)).below hb1).below hb2) rfl (by omega) (by omega) (by omega)).mono ?_
    rintro e w3 ⟨rfl, hb3⟩
    go_wp2_with fail
    refine (rplain_any).mono ?_
    rintro e w' ⟨rfl, rfl⟩
    have HEND := Lib.hid (bt (bt (bt (bt ((Below.refl _ _).alloc (Nat.le_refl _) _) ((Below.refl _ _).alloc (Nat.le_refl _) _)) hb1) hb2) hb3)
    go_wp2
    go_ret
    exact ⟨by simp, HEND.out⟩
  · have CZ : Hid (∀ (w : World) (v : Value), Num w v y K → Calls Tryd.prog 11 #[v] w (Keeps (.bool false) w)) := fun w v h => by
      have := zero5_any h (by omega)
      rwa [decide_eq_false (by omega)] at this
    have HD0 := Lib.hid hy
    clear hy
    by_cases g1 : z < 1
    · have d1 : decide (z < 1) = true := by simp; omega
      go_enter Tryd.func4, Tryd.ntmps4
      go_wp2_with fail
      refine (decimal_half (((Num.lit (t := 27) _ [7] (by simp) (by simp [W_eq, All])).mono (L' := 1) (by simp)).below ((Below.refl _ _).alloc (Nat.le_refl _) _)) ((Num.lit (t := 27) _ [2] (by simp) (by simp [W_eq, All])).mono (L' := 1) (by simp)) ((HS.out.below ((Below.refl _ _).alloc (Nat.le_refl _) _)).below ((Below.refl _ _).alloc (Nat.le_refl _) _)) (by omega) (by omega)).mono ?_
      rintro e w5 ⟨rfl, hb5⟩
      go_wp2_with fail
      refine (CZ.out _ _ (((H'.out.below ((Below.refl _ _).alloc (Nat.le_refl _) _)).below ((Below.refl _ _).alloc (Nat.le_refl _) _)).below hb5)).mono ?_
      rintro e w6 ⟨rfl, hb6⟩
      obtain ⟨F, G, m, k, c1, c2, c3, c4, c5, c6, c7, c8, c9, c10, c11⟩ := cut_parts (num := x) (p := 5) HD0.out (by omega)
      have hmL : m ≤ 64 * L := by have := txt_len (b := 10) (x := x / y) (by omega) (Nat.lt_of_le_of_lt (Nat.div_le_self _ _) HXL.out) hL1; omega
      have CDP : Hid (∀ (w : World) (v u : Value), Num w v x L → Num w u y K → SG w → Calls Tryd.prog 6 #[v, u, .int .i64 5] w (Keeps (.tuple #[.string (decT x y 5), .int .i64 0]) w)) := fun w v u h1 h2 h3 => decimal_any h1 h2 h3 (by omega) HD0.out (by omega) (by omega) (by omega)
      have CDP1 : Hid (∀ (w : World) (v u : Value), Num w v x L → Num w u y K → SG w → Calls Tryd.prog 6 #[v, u, .int .i64 6] w (Keeps (.tuple #[.string (decT x y (5 + 1)), .int .i64 0]) w)) := fun w v u h1 h2 h3 => decimal_any h1 h2 h3 (by omega) HD0.out (by omega) (by omega) (by omega)
      obtain ⟨S, hS⟩ : ∃ S, S = decT x y 5 := ⟨_, rfl⟩
      obtain ⟨T, hT⟩ : ∃ T, T = decT x y (5 + 1) := ⟨_, rfl⟩
      rw [← hS, ← hT] at c1 c2
      rw [← hS] at c3 c6 c7 c8 CDP
      rw [← hT] at CDP1
      clear hS hT
      obtain ⟨X, hX⟩ : ∃ X, X = x * 10 ^ 5 / y := ⟨_, rfl⟩
      rw [← hX] at c9
      have HXW : Hid (X < W ^ (L + (5 + 1))) := by
        show _ < _
        rw [hX]
        refine Nat.lt_of_le_of_lt (Nat.div_le_self _ _) ?_
        rw [Nat.pow_add]
        refine Nat.mul_lt_mul_of_lt_of_lt HXL.out ?_
        exact Nat.lt_of_lt_of_le (Nat.pow_lt_pow_right (by omega) (by omega)) (Nat.pow_le_pow_left (by rw [W_eq]; omega) _)
      obtain ⟨z1, hz1⟩ : ∃ z1, z1 = cmpN (X * y) (x * 10 ^ 5) := ⟨_, rfl⟩
      obtain ⟨z2, hz2⟩ : ∃ z2, z2 = cmpN (x * 10 ^ 5) ((X + 1) * y) := ⟨_, rfl⟩
      have CC1 : Hid (∀ (w : World) (v u : Value) (L M : Nat), Num w v (X * y) L → Num w u (x * 10 ^ 5) M → L ≤ 67108864 → M ≤ 67108864 → Calls Tryd.prog 17 #[v, u] w (fun e w' => e = .returned (.int .i64 z1) ∧ w = w')) := fun w v u L M h1 h2 h3 h4 => by rw [hz1]; exact ncmp_any h1 h2 (by omega) (by omega)
      have CC2 : Hid (∀ (w : World) (v u : Value) (L M : Nat), Num w v (x * 10 ^ 5) L → Num w u ((X + 1) * y) M → L ≤ 67108864 → M ≤ 67108864 → Calls Tryd.prog 17 #[v, u] w (fun e w' => e = .returned (.int .i64 z2) ∧ w = w')) := fun w v u L M h1 h2 h3 h4 => by rw [hz2]; exact ncmp_any h1 h2 (by omega) (by omega)
      obtain ⟨dz1, dz2, hz3⟩ := cuts_cmp (num := x) (p := 5) HD0.out hX
      rw [← hz1] at dz1 hz3
      rw [← hz2] at dz2
      have HZ3 := Lib.hid hz3
      obtain ⟨DG, hDG⟩ : ∃ DG, DG = zt k X := ⟨_, rfl⟩
      rw [← hDG] at c9
      have u0 : ∀ w, (Op.stringOp .add F G).run Tryd.prog w = .ok (.string DG) w := fun w => by rw [run_string_add_sum w _ _ (by omega), c9]
      obtain ⟨TX, hTX⟩ : ∃ TX, TX = txt 10 X := ⟨_, rfl⟩
      have hTXL : TX.size ≤ 64 * (L + (5 + 1)) := by rw [hTX]; exact txt_len (b := 10) (by omega) HXW.out (by omega)
      have HTX := Lib.hid hTX
      have HDG := Lib.hid hDG
      have i3 : m < S.size := by omega
      have h46 := byt_at S m i3
      have q46 : ((((S[m]'i3).toNat : Nat) : Int) == 46) = true := by rw [h46, c6]; rfl
      have n1 : (T.size : Int) = (S.size : Int) + 1 := by omega
      have n2 : (S.size : Int) ≤ (T.size : Int) := by omega
      have n3 : decide ((S.size : Int) < 7) = false := by simp; omega
      have i1 : (0 : Int) ≤ (m : Int) := by omega
      have i2 : (m : Int) < (S.size : Int) := by omega
      have i4 : (m : Int) + 1 ≤ (S.size : Int) := by omega
      have i5 : S.size ≤ 4294967296 := by omega
      have i6 : m ≤ S.size := by omega
      have i7 : m + 1 ≤ S.size := by omega
      have i8 : (0 : Int) ≤ (m : Int) + 1 := by omega
      have v0 := lay (show (S.size : Int) - 5 = (m : Int) + 1 from by omega)
      have v1 := lay (show IntKind.i64.wrap ((S.size : Int) - 5) = (m : Int) + 1 from by rw [IntWalk.i64_in _ (by omega)]; omega)
      have v2 := lay (show IntKind.i64.wrap ((m : Int) + 1) = (m : Int) + 1 from IntWalk.i64_in _ (by omega))
      have v3 := lay (show IntKind.i64.wrap (m : Int) = (m : Int) from IntWalk.i64_in _ (by omega))
      have v4 := lay (show (m : Int) + 1 - 1 = (m : Int) from by omega)
      clear h46 hz1 hz2 hz3 hX hTX hDG c1 c3 c4 c5 c6 c9 c10 c11
      go_wp2_with fail
      refine (CDP.out _ _ _ ((((H.out.below ((Below.refl _ _).alloc (Nat.le_refl _) _)).below ((Below.refl _ _).alloc (Nat.le_refl _) _)).below hb5).below hb6) ((((H'.out.below ((Below.refl _ _).alloc (Nat.le_refl _) _)).below ((Below.refl _ _).alloc (Nat.le_refl _) _)).below hb5).below hb6) ((((HS.out.below ((Below.refl _ _).alloc (Nat.le_refl _) _)).below ((Below.refl _ _).alloc (Nat.le_refl _) _)).below hb5).below hb6)).mono ?_
      rintro e w7 ⟨rfl, hb7⟩
      go_wp2_with fail
      refine (CDP1.out _ _ _ (((((H.out.below ((Below.refl _ _).alloc (Nat.le_refl _) _)).below ((Below.refl _ _).alloc (Nat.le_refl _) _)).below hb5).below hb6).below hb7) (((((H'.out.below ((Below.refl _ _).alloc (Nat.le_refl _) _)).below ((Below.refl _ _).alloc (Nat.le_refl _) _)).below hb5).below hb6).below hb7) (((((HS.out.below ((Below.refl _ _).alloc (Nat.le_refl _) _)).below ((Below.refl _ _).alloc (Nat.le_refl _) _)).below hb5).below hb6).below hb7)).mono ?_
      rintro e w8 ⟨rfl, hb8⟩
      go_wp2_with fail
      refine wp_region_grow none [(true, 0), (true, 1), (true, 2), (true, 3), (true, 4), (true, 5), (true, 6), (true, 7), (true, 8)] (by kernel_rfl) (by kernel_rfl) ?_
      repeat (refine ord_pas (by rfl) (fun K hK => ?_); go_simp; refine hK _ _ (fun w' hw' => (by first | (go_simp; done) | (go_simp; intro hh; cases hh))) ?_; clear hK K)

      refine ord_nil ?_
      clear n1 n2 n3 q46 u0 c2 c7 c8
      go_wp2
      go_loopw [13] (fun dv wr => ∃ j, Hid (Below ((World.drew w8)).heap.size ((World.drew w8)) wr) ∧ dv = .string (zt j X)) (fun dv _ => szOf dv)
      case atStart => exact ⟨k, Below.refl _ _, by rw [← HDG.out]⟩
      case round =>
        obtain ⟨j, HWR, rfl⟩ := hrel
        rcases Nat.eq_zero_or_pos j with hj | hj
        · subst hj
          rw [zt_zero, ← HTX.out]
          by_cases ht : 1 < TX.size
          · have e1 : decide ((1 : Int) < (TX.size : Int)) = true := by simp; omega
            have e2 : 0 < TX.size := by omega
            have h4 := byt_at TX 0 e2
            have e3 : ((((TX[0]'e2).toNat : Nat) : Int) == 48) = false := by
              rw [h4, beq_eq_false_iff_ne]
              have := txt_first X (by rw [← HTX.out]; exact ht)
              rw [← HTX.out] at this
              omega
            clear h4
            go_wp2_with fail
            refine (rparse_any (s := TX) ((((((((HS.out.below ((Below.refl _ _).alloc (Nat.le_refl _) _)).below ((Below.refl _ _).alloc (Nat.le_refl _) _)).below hb5).below hb6).below hb7).below hb8).below (Below.refl _ _).drew).below HWR.out) (by omega)).mono ?_
            rintro e wp hp
            rw [HTX.out] at hp
            obtain ⟨A_n, n_n, c_n, rfl, o_n, hbn, l_n⟩ := hp.txt (by omega) (by omega) HXW.out
            clear hp
            go_wp2_with fail
            refine (rten_le (N := 5) (by omega) (by omega)).mono ?_
            rintro e w9 ⟨A_t, n_t, c_t, rfl, o_t, hb9, l_t⟩
            go_wp2_with fail
            refine (mul_any ((((((((((H.out.below ((Below.refl _ _).alloc (Nat.le_refl _) _)).below ((Below.refl _ _).alloc (Nat.le_refl _) _)).below hb5).below hb6).below hb7).below hb8).below (Below.refl _ _).drew).below HWR.out).below hbn).below hb9) (o_t.num l_t) (by omega) (by omega)).mono ?_
            rintro e w10 ⟨A_lf, n_lf, c_lf, rfl, o_lf, hb10, l_lf⟩
            go_wp2_with fail
            refine (mul_any ((((o_n).num l_n).below hb9).below hb10) (((((((((((H'.out.below ((Below.refl _ _).alloc (Nat.le_refl _) _)).below ((Below.refl _ _).alloc (Nat.le_refl _) _)).below hb5).below hb6).below hb7).below hb8).below (Below.refl _ _).drew).below HWR.out).below hbn).below hb9).below hb10) (by omega) (by omega)).mono ?_
            rintro e w11 ⟨A_lo, n_lo, c_lo, rfl, o_lo, hb11, l_lo⟩
            go_wp2_with fail
            refine (nof_any (x := 1) (x' := 1) rfl (by rw [W_eq]; omega)).mono ?_
            rintro e w12 ⟨A_o, n_o, c_o, rfl, o_o, hb12, l_o⟩
            go_wp2_with fail
            refine (nadd_any ((((((o_n).num l_n).below hb9).below hb10).below hb11).below hb12) (o_o.num l_o) (by omega) (by omega)).mono ?_
            rintro e w13 ⟨A_su, n_su, c_su, rfl, o_su, hb13, l_su⟩
            go_wp2_with fail
            refine (mul_any (o_su.num l_su) ((((((((((((((H'.out.below ((Below.refl _ _).alloc (Nat.le_refl _) _)).below ((Below.refl _ _).alloc (Nat.le_refl _) _)).below hb5).below hb6).below hb7).below hb8).below (Below.refl _ _).drew).below HWR.out).below hbn).below hb9).below hb10).below hb11).below hb12).below hb13) (by omega) (by omega)).mono ?_
            rintro e w14 ⟨A_hi, n_hi, c_hi, rfl, o_hi, hb14, l_hi⟩
            go_wp2_with fail
            refine (CC1.out _ _ _ _ _ ((((o_lo.num l_lo).below hb12).below hb13).below hb14) (((((o_lf.num l_lf).below hb11).below hb12).below hb13).below hb14) (by omega) (by omega)).mono ?_
            rintro e w' ⟨rfl, rfl⟩
            go_wp2_with fail
            refine (CC2.out _ _ _ _ _ (((((o_lf.num l_lf).below hb11).below hb12).below hb13).below hb14) (o_hi.num l_hi) (by omega) (by omega)).mono ?_
            rintro e w' ⟨rfl, rfl⟩
            go_wp2_with fail
            refine (places_any (((((((((((((((H.out.below ((Below.refl _ _).alloc (Nat.le_refl _) _)).below ((Below.refl _ _).alloc (Nat.le_refl _) _)).below hb5).below hb6).below hb7).below hb8).below (Below.refl _ _).drew).below HWR.out).below hbn).below hb9).below hb10).below hb11).below hb12).below hb13).below hb14) (((((((((((((((H'.out.below ((Below.refl _ _).alloc (Nat.le_refl _) _)).below ((Below.refl _ _).alloc (Nat.le_refl _) _)).below hb5).below hb6).below hb7).below hb8).below (Below.refl _ _).drew).below HWR.out).below hbn).below hb9).below hb10).below hb11).below hb12).below hb13).below hb14) HD0.out (by omega) (by omega)).mono ?_
            rintro e wq ⟨nx, bx, rfl, hbq, hpl⟩
            have hex := plOk_exact (p := 5) HD0.out hpl
            rw [← HZ3.out] at hex
            rcases hpl with ⟨rfl, hp1, hp2, hp3⟩ | ⟨rfl, rfl, hp2⟩
            · by_cases hle : nx ≤ 5
              · have f1 : decide ((nx : Int) ≤ 5) = true := by simp; omega
                rw [decide_eq_true hle] at hex
                have f2 : (z1 == 0) = true := hex
                clear hp1 hp2 hp3 hex
                go_wp2_with fail
                refine (CC1.out _ _ _ _ _ (((((o_lo.num l_lo).below hb12).below hb13).below hb14).below hbq) ((((((o_lf.num l_lf).below hb11).below hb12).below hb13).below hb14).below hbq) (by omega) (by omega)).mono ?_
                rintro e w' ⟨rfl, rfl⟩
                have HEND := Lib.hid (bt (bt (bt (bt (bt (bt (bt (bt (bt (bt (bt (bt (bt (bt (bt ((Below.refl _ _).alloc (Nat.le_refl _) _) ((Below.refl _ _).alloc (Nat.le_refl _) _)) hb5) hb6) hb7) hb8) (Below.refl _ _).drew) HWR.out) hbn) hb9) hb10) hb11) hb12) hb13) hb14) hbq)
                go_wp2
                go_ret
                exact ⟨by simp, HEND.out⟩
              · have f1 : decide ((nx : Int) ≤ 5) = false := by simp; omega
                rw [decide_eq_false hle] at hex
                have f2 : (z1 == 0) = false := hex
                clear hp1 hp2 hp3 hex
                go_wp2_with fail
                refine (CC1.out _ _ _ _ _ (((((o_lo.num l_lo).below hb12).below hb13).below hb14).below hbq) ((((((o_lf.num l_lf).below hb11).below hb12).below hb13).below hb14).below hbq) (by omega) (by omega)).mono ?_
                rintro e w' ⟨rfl, rfl⟩
                have HEND := Lib.hid (bt (bt (bt (bt (bt (bt (bt (bt (bt (bt (bt (bt (bt (bt (bt ((Below.refl _ _).alloc (Nat.le_refl _) _) ((Below.refl _ _).alloc (Nat.le_refl _) _)) hb5) hb6) hb7) hb8) (Below.refl _ _).drew) HWR.out) hbn) hb9) hb10) hb11) hb12) hb13) hb14) hbq)
                go_wp2
                go_ret
                exact ⟨by simp, HEND.out⟩
            · have f2 : (z1 == 0) = false := hex
              clear hp2 hex
              go_wp2_with fail
              refine (CC1.out _ _ _ _ _ (((((o_lo.num l_lo).below hb12).below hb13).below hb14).below hbq) ((((((o_lf.num l_lf).below hb11).below hb12).below hb13).below hb14).below hbq) (by omega) (by omega)).mono ?_
              rintro e w' ⟨rfl, rfl⟩
              have HEND := Lib.hid (bt (bt (bt (bt (bt (bt (bt (bt (bt (bt (bt (bt (bt (bt (bt ((Below.refl _ _).alloc (Nat.le_refl _) _) ((Below.refl _ _).alloc (Nat.le_refl _) _)) hb5) hb6) hb7) hb8) (Below.refl _ _).drew) HWR.out) hbn) hb9) hb10) hb11) hb12) hb13) hb14) hbq)
              go_wp2
              go_ret
              exact ⟨by simp, HEND.out⟩
          · have e1 : decide ((1 : Int) < (TX.size : Int)) = false := by simp; omega
            have e4 : TX.size ≤ 1 := by omega
            clear ht
            go_wp2_with fail
            refine (rparse_any (s := TX) ((((((((HS.out.below ((Below.refl _ _).alloc (Nat.le_refl _) _)).below ((Below.refl _ _).alloc (Nat.le_refl _) _)).below hb5).below hb6).below hb7).below hb8).below (Below.refl _ _).drew).below HWR.out) (by omega)).mono ?_
            rintro e wp hp
            rw [HTX.out] at hp
            obtain ⟨A_n, n_n, c_n, rfl, o_n, hbn, l_n⟩ := hp.txt (by omega) (by omega) HXW.out
            clear hp
            go_wp2_with fail
            refine (rten_le (N := 5) (by omega) (by omega)).mono ?_
            rintro e w20 ⟨A_t, n_t, c_t, rfl, o_t, hb20, l_t⟩
            go_wp2_with fail
            refine (mul_any ((((((((((H.out.below ((Below.refl _ _).alloc (Nat.le_refl _) _)).below ((Below.refl _ _).alloc (Nat.le_refl _) _)).below hb5).below hb6).below hb7).below hb8).below (Below.refl _ _).drew).below HWR.out).below hbn).below hb20) (o_t.num l_t) (by omega) (by omega)).mono ?_
            rintro e w21 ⟨A_lf, n_lf, c_lf, rfl, o_lf, hb21, l_lf⟩
            go_wp2_with fail
            refine (mul_any ((((o_n).num l_n).below hb20).below hb21) (((((((((((H'.out.below ((Below.refl _ _).alloc (Nat.le_refl _) _)).below ((Below.refl _ _).alloc (Nat.le_refl _) _)).below hb5).below hb6).below hb7).below hb8).below (Below.refl _ _).drew).below HWR.out).below hbn).below hb20).below hb21) (by omega) (by omega)).mono ?_
            rintro e w22 ⟨A_lo, n_lo, c_lo, rfl, o_lo, hb22, l_lo⟩
            go_wp2_with fail
            refine (nof_any (x := 1) (x' := 1) rfl (by rw [W_eq]; omega)).mono ?_
            rintro e w23 ⟨A_o, n_o, c_o, rfl, o_o, hb23, l_o⟩
            go_wp2_with fail
            refine (nadd_any ((((((o_n).num l_n).below hb20).below hb21).below hb22).below hb23) (o_o.num l_o) (by omega) (by omega)).mono ?_
            rintro e w24 ⟨A_su, n_su, c_su, rfl, o_su, hb24, l_su⟩
            go_wp2_with fail
            refine (mul_any (o_su.num l_su) ((((((((((((((H'.out.below ((Below.refl _ _).alloc (Nat.le_refl _) _)).below ((Below.refl _ _).alloc (Nat.le_refl _) _)).below hb5).below hb6).below hb7).below hb8).below (Below.refl _ _).drew).below HWR.out).below hbn).below hb20).below hb21).below hb22).below hb23).below hb24) (by omega) (by omega)).mono ?_
            rintro e w25 ⟨A_hi, n_hi, c_hi, rfl, o_hi, hb25, l_hi⟩
            go_wp2_with fail
            refine (CC1.out _ _ _ _ _ ((((o_lo.num l_lo).below hb23).below hb24).below hb25) (((((o_lf.num l_lf).below hb22).below hb23).below hb24).below hb25) (by omega) (by omega)).mono ?_
            rintro e w' ⟨rfl, rfl⟩
            go_wp2_with fail
            refine (CC2.out _ _ _ _ _ (((((o_lf.num l_lf).below hb22).below hb23).below hb24).below hb25) (o_hi.num l_hi) (by omega) (by omega)).mono ?_
            rintro e w' ⟨rfl, rfl⟩
            go_wp2_with fail
            refine (places_any (((((((((((((((H.out.below ((Below.refl _ _).alloc (Nat.le_refl _) _)).below ((Below.refl _ _).alloc (Nat.le_refl _) _)).below hb5).below hb6).below hb7).below hb8).below (Below.refl _ _).drew).below HWR.out).below hbn).below hb20).below hb21).below hb22).below hb23).below hb24).below hb25) (((((((((((((((H'.out.below ((Below.refl _ _).alloc (Nat.le_refl _) _)).below ((Below.refl _ _).alloc (Nat.le_refl _) _)).below hb5).below hb6).below hb7).below hb8).below (Below.refl _ _).drew).below HWR.out).below hbn).below hb20).below hb21).below hb22).below hb23).below hb24).below hb25) HD0.out (by omega) (by omega)).mono ?_
            rintro e wq ⟨nx, bx, rfl, hbq, hpl⟩
            have hex := plOk_exact (p := 5) HD0.out hpl
            rw [← HZ3.out] at hex
            rcases hpl with ⟨rfl, hp1, hp2, hp3⟩ | ⟨rfl, rfl, hp2⟩
            · by_cases hle : nx ≤ 5
              · have f1 : decide ((nx : Int) ≤ 5) = true := by simp; omega
                rw [decide_eq_true hle] at hex
                have f2 : (z1 == 0) = true := hex
                clear hp1 hp2 hp3 hex
                go_wp2_with fail
                refine (CC1.out _ _ _ _ _ (((((o_lo.num l_lo).below hb23).below hb24).below hb25).below hbq) ((((((o_lf.num l_lf).below hb22).below hb23).below hb24).below hb25).below hbq) (by omega) (by omega)).mono ?_
                rintro e w' ⟨rfl, rfl⟩
                have HEND := Lib.hid (bt (bt (bt (bt (bt (bt (bt (bt (bt (bt (bt (bt (bt (bt (bt ((Below.refl _ _).alloc (Nat.le_refl _) _) ((Below.refl _ _).alloc (Nat.le_refl _) _)) hb5) hb6) hb7) hb8) (Below.refl _ _).drew) HWR.out) hbn) hb20) hb21) hb22) hb23) hb24) hb25) hbq)
                go_wp2
                go_ret
                exact ⟨by simp, HEND.out⟩
              · have f1 : decide ((nx : Int) ≤ 5) = false := by simp; omega
                rw [decide_eq_false hle] at hex
                have f2 : (z1 == 0) = false := hex
                clear hp1 hp2 hp3 hex
                go_wp2_with fail
                refine (CC1.out _ _ _ _ _ (((((o_lo.num l_lo).below hb23).below hb24).below hb25).below hbq) ((((((o_lf.num l_lf).below hb22).below hb23).below hb24).below hb25).below hbq) (by omega) (by omega)).mono ?_
                rintro e w' ⟨rfl, rfl⟩
                have HEND := Lib.hid (bt (bt (bt (bt (bt (bt (bt (bt (bt (bt (bt (bt (bt (bt (bt ((Below.refl _ _).alloc (Nat.le_refl _) _) ((Below.refl _ _).alloc (Nat.le_refl _) _)) hb5) hb6) hb7) hb8) (Below.refl _ _).drew) HWR.out) hbn) hb20) hb21) hb22) hb23) hb24) hb25) hbq)
                go_wp2
                go_ret
                exact ⟨by simp, HEND.out⟩
            · have f2 : (z1 == 0) = false := hex
              clear hp2 hex
              go_wp2_with fail
              refine (CC1.out _ _ _ _ _ (((((o_lo.num l_lo).below hb23).below hb24).below hb25).below hbq) ((((((o_lf.num l_lf).below hb22).below hb23).below hb24).below hb25).below hbq) (by omega) (by omega)).mono ?_
              rintro e w' ⟨rfl, rfl⟩
              have HEND := Lib.hid (bt (bt (bt (bt (bt (bt (bt (bt (bt (bt (bt (bt (bt (bt (bt ((Below.refl _ _).alloc (Nat.le_refl _) _) ((Below.refl _ _).alloc (Nat.le_refl _) _)) hb5) hb6) hb7) hb8) (Below.refl _ _).drew) HWR.out) hbn) hb20) hb21) hb22) hb23) hb24) hb25) hbq)
              go_wp2
              go_ret
              exact ⟨by simp, HEND.out⟩
        · obtain ⟨i, rfl⟩ : ∃ i, j = i + 1 := ⟨j - 1, by omega⟩
          obtain ⟨y1, y2, y3⟩ := zt_step i X
          have HLT : Hid ((zt i X).size < (zt (i + 1) X).size) := by show _ < _; rw [zt_size, zt_size]; omega
          obtain ⟨V, hV⟩ : ∃ V, V = zt (i + 1) X := ⟨_, rfl⟩
          rw [← hV] at y1 y2 y3
          rw [← hV]
          rw [← hV] at HLT
          clear hV hj
          have e1 : decide ((1 : Int) < (V.size : Int)) = true := by simp; omega
          have e2 : 0 < V.size := by omega
          have h4 := byt_at V 0 e2
          have e3 : ((((V[0]'e2).toNat : Nat) : Int) == 48) = true := by rw [h4, y1]; rfl
          have e5 : 1 ≤ V.size := by omega
          clear h4 y1
          go_wp2
          go_roundw
          case rel => exact ⟨i, HWR, rfl⟩
          case measure => exact HLT.out
    · by_cases g2 : 400 < z
      · have d1 : decide (z < 1) = false := by simp; omega
        have d2 : decide (400 < z) = true := by simp; omega
        go_enter Tryd.func4, Tryd.ntmps4
        go_wp2_with fail
        refine (decimal_half (((Num.lit (t := 27) _ [7] (by simp) (by simp [W_eq, All])).mono (L' := 1) (by simp)).below ((Below.refl _ _).alloc (Nat.le_refl _) _)) ((Num.lit (t := 27) _ [2] (by simp) (by simp [W_eq, All])).mono (L' := 1) (by simp)) ((HS.out.below ((Below.refl _ _).alloc (Nat.le_refl _) _)).below ((Below.refl _ _).alloc (Nat.le_refl _) _)) (by omega) (by omega)).mono ?_
        rintro e w31 ⟨rfl, hb31⟩
        go_wp2_with fail
        refine (CZ.out _ _ (((H'.out.below ((Below.refl _ _).alloc (Nat.le_refl _) _)).below ((Below.refl _ _).alloc (Nat.le_refl _) _)).below hb31)).mono ?_
        rintro e w32 ⟨rfl, hb32⟩
        obtain ⟨F, G, m, k, c1, c2, c3, c4, c5, c6, c7, c8, c9, c10, c11⟩ := cut_parts (num := x) (p := 5) HD0.out (by omega)
        have hmL : m ≤ 64 * L := by have := txt_len (b := 10) (x := x / y) (by omega) (Nat.lt_of_le_of_lt (Nat.div_le_self _ _) HXL.out) hL1; omega
        have CDP : Hid (∀ (w : World) (v u : Value), Num w v x L → Num w u y K → SG w → Calls Tryd.prog 6 #[v, u, .int .i64 5] w (Keeps (.tuple #[.string (decT x y 5), .int .i64 0]) w)) := fun w v u h1 h2 h3 => decimal_any h1 h2 h3 (by omega) HD0.out (by omega) (by omega) (by omega)
        have CDP1 : Hid (∀ (w : World) (v u : Value), Num w v x L → Num w u y K → SG w → Calls Tryd.prog 6 #[v, u, .int .i64 6] w (Keeps (.tuple #[.string (decT x y (5 + 1)), .int .i64 0]) w)) := fun w v u h1 h2 h3 => decimal_any h1 h2 h3 (by omega) HD0.out (by omega) (by omega) (by omega)
        obtain ⟨S, hS⟩ : ∃ S, S = decT x y 5 := ⟨_, rfl⟩
        obtain ⟨T, hT⟩ : ∃ T, T = decT x y (5 + 1) := ⟨_, rfl⟩
        rw [← hS, ← hT] at c1 c2
        rw [← hS] at c3 c6 c7 c8 CDP
        rw [← hT] at CDP1
        clear hS hT
        obtain ⟨X, hX⟩ : ∃ X, X = x * 10 ^ 5 / y := ⟨_, rfl⟩
        rw [← hX] at c9
        have HXW : Hid (X < W ^ (L + (5 + 1))) := by
          show _ < _
          rw [hX]
          refine Nat.lt_of_le_of_lt (Nat.div_le_self _ _) ?_
          rw [Nat.pow_add]
          refine Nat.mul_lt_mul_of_lt_of_lt HXL.out ?_
          exact Nat.lt_of_lt_of_le (Nat.pow_lt_pow_right (by omega) (by omega)) (Nat.pow_le_pow_left (by rw [W_eq]; omega) _)
        obtain ⟨z1, hz1⟩ : ∃ z1, z1 = cmpN (X * y) (x * 10 ^ 5) := ⟨_, rfl⟩
        obtain ⟨z2, hz2⟩ : ∃ z2, z2 = cmpN (x * 10 ^ 5) ((X + 1) * y) := ⟨_, rfl⟩
        have CC1 : Hid (∀ (w : World) (v u : Value) (L M : Nat), Num w v (X * y) L → Num w u (x * 10 ^ 5) M → L ≤ 67108864 → M ≤ 67108864 → Calls Tryd.prog 17 #[v, u] w (fun e w' => e = .returned (.int .i64 z1) ∧ w = w')) := fun w v u L M h1 h2 h3 h4 => by rw [hz1]; exact ncmp_any h1 h2 (by omega) (by omega)
        have CC2 : Hid (∀ (w : World) (v u : Value) (L M : Nat), Num w v (x * 10 ^ 5) L → Num w u ((X + 1) * y) M → L ≤ 67108864 → M ≤ 67108864 → Calls Tryd.prog 17 #[v, u] w (fun e w' => e = .returned (.int .i64 z2) ∧ w = w')) := fun w v u L M h1 h2 h3 h4 => by rw [hz2]; exact ncmp_any h1 h2 (by omega) (by omega)
        obtain ⟨dz1, dz2, hz3⟩ := cuts_cmp (num := x) (p := 5) HD0.out hX
        rw [← hz1] at dz1 hz3
        rw [← hz2] at dz2
        have HZ3 := Lib.hid hz3
        obtain ⟨DG, hDG⟩ : ∃ DG, DG = zt k X := ⟨_, rfl⟩
        rw [← hDG] at c9
        have u0 : ∀ w, (Op.stringOp .add F G).run Tryd.prog w = .ok (.string DG) w := fun w => by rw [run_string_add_sum w _ _ (by omega), c9]
        obtain ⟨TX, hTX⟩ : ∃ TX, TX = txt 10 X := ⟨_, rfl⟩
        have hTXL : TX.size ≤ 64 * (L + (5 + 1)) := by rw [hTX]; exact txt_len (b := 10) (by omega) HXW.out (by omega)
        have HTX := Lib.hid hTX
        have HDG := Lib.hid hDG
        have i3 : m < S.size := by omega
        have h46 := byt_at S m i3
        have q46 : ((((S[m]'i3).toNat : Nat) : Int) == 46) = true := by rw [h46, c6]; rfl
        have n1 : (T.size : Int) = (S.size : Int) + 1 := by omega
        have n2 : (S.size : Int) ≤ (T.size : Int) := by omega
        have n3 : decide ((S.size : Int) < 7) = false := by simp; omega
        have i1 : (0 : Int) ≤ (m : Int) := by omega
        have i2 : (m : Int) < (S.size : Int) := by omega
        have i4 : (m : Int) + 1 ≤ (S.size : Int) := by omega
        have i5 : S.size ≤ 4294967296 := by omega
        have i6 : m ≤ S.size := by omega
        have i7 : m + 1 ≤ S.size := by omega
        have i8 : (0 : Int) ≤ (m : Int) + 1 := by omega
        have v0 := lay (show (S.size : Int) - 5 = (m : Int) + 1 from by omega)
        have v1 := lay (show IntKind.i64.wrap ((S.size : Int) - 5) = (m : Int) + 1 from by rw [IntWalk.i64_in _ (by omega)]; omega)
        have v2 := lay (show IntKind.i64.wrap ((m : Int) + 1) = (m : Int) + 1 from IntWalk.i64_in _ (by omega))
        have v3 := lay (show IntKind.i64.wrap (m : Int) = (m : Int) from IntWalk.i64_in _ (by omega))
        have v4 := lay (show (m : Int) + 1 - 1 = (m : Int) from by omega)
        clear h46 hz1 hz2 hz3 hX hTX hDG c1 c3 c4 c5 c6 c9 c10 c11
        go_wp2_with fail
        refine (CDP.out _ _ _ ((((H.out.below ((Below.refl _ _).alloc (Nat.le_refl _) _)).below ((Below.refl _ _).alloc (Nat.le_refl _) _)).below hb31).below hb32) ((((H'.out.below ((Below.refl _ _).alloc (Nat.le_refl _) _)).below ((Below.refl _ _).alloc (Nat.le_refl _) _)).below hb31).below hb32) ((((HS.out.below ((Below.refl _ _).alloc (Nat.le_refl _) _)).below ((Below.refl _ _).alloc (Nat.le_refl _) _)).below hb31).below hb32)).mono ?_
        rintro e w33 ⟨rfl, hb33⟩
        go_wp2_with fail
        refine (CDP1.out _ _ _ (((((H.out.below ((Below.refl _ _).alloc (Nat.le_refl _) _)).below ((Below.refl _ _).alloc (Nat.le_refl _) _)).below hb31).below hb32).below hb33) (((((H'.out.below ((Below.refl _ _).alloc (Nat.le_refl _) _)).below ((Below.refl _ _).alloc (Nat.le_refl _) _)).below hb31).below hb32).below hb33) (((((HS.out.below ((Below.refl _ _).alloc (Nat.le_refl _) _)).below ((Below.refl _ _).alloc (Nat.le_refl _) _)).below hb31).below hb32).below hb33)).mono ?_
        rintro e w34 ⟨rfl, hb34⟩
        go_wp2_with fail
        refine wp_region_grow none [(true, 0), (true, 1), (true, 2), (true, 3), (true, 4), (true, 5), (true, 6), (true, 7), (true, 8)] (by kernel_rfl) (by kernel_rfl) ?_
        repeat (refine ord_pas (by rfl) (fun K hK => ?_); go_simp; refine hK _ _ (fun w' hw' => (by first | (go_simp; done) | (go_simp; intro hh; cases hh))) ?_; clear hK K)

        refine ord_nil ?_
        clear n1 n2 n3 q46 u0 c2 c7 c8
        go_wp2
        go_loopw [13] (fun dv wr => ∃ j, Hid (Below ((World.drew w34)).heap.size ((World.drew w34)) wr) ∧ dv = .string (zt j X)) (fun dv _ => szOf dv)
        case atStart => exact ⟨k, Below.refl _ _, by rw [← HDG.out]⟩
        case round =>
          obtain ⟨j, HWR, rfl⟩ := hrel
          rcases Nat.eq_zero_or_pos j with hj | hj
          · subst hj
            rw [zt_zero, ← HTX.out]
            by_cases ht : 1 < TX.size
            · have e1 : decide ((1 : Int) < (TX.size : Int)) = true := by simp; omega
              have e2 : 0 < TX.size := by omega
              have h4 := byt_at TX 0 e2
              have e3 : ((((TX[0]'e2).toNat : Nat) : Int) == 48) = false := by
                rw [h4, beq_eq_false_iff_ne]
                have := txt_first X (by rw [← HTX.out]; exact ht)
                rw [← HTX.out] at this
                omega
              clear h4
              go_wp2_with fail
              refine (rparse_any (s := TX) ((((((((HS.out.below ((Below.refl _ _).alloc (Nat.le_refl _) _)).below ((Below.refl _ _).alloc (Nat.le_refl _) _)).below hb31).below hb32).below hb33).below hb34).below (Below.refl _ _).drew).below HWR.out) (by omega)).mono ?_
              rintro e wp hp
              rw [HTX.out] at hp
              obtain ⟨A_n, n_n, c_n, rfl, o_n, hbn, l_n⟩ := hp.txt (by omega) (by omega) HXW.out
              clear hp
              go_wp2_with fail
              refine (rten_le (N := 5) (by omega) (by omega)).mono ?_
              rintro e w35 ⟨A_t, n_t, c_t, rfl, o_t, hb35, l_t⟩
              go_wp2_with fail
              refine (mul_any ((((((((((H.out.below ((Below.refl _ _).alloc (Nat.le_refl _) _)).below ((Below.refl _ _).alloc (Nat.le_refl _) _)).below hb31).below hb32).below hb33).below hb34).below (Below.refl _ _).drew).below HWR.out).below hbn).below hb35) (o_t.num l_t) (by omega) (by omega)).mono ?_
              rintro e w36 ⟨A_lf, n_lf, c_lf, rfl, o_lf, hb36, l_lf⟩
              go_wp2_with fail
              refine (mul_any ((((o_n).num l_n).below hb35).below hb36) (((((((((((H'.out.below ((Below.refl _ _).alloc (Nat.le_refl _) _)).below ((Below.refl _ _).alloc (Nat.le_refl _) _)).below hb31).below hb32).below hb33).below hb34).below (Below.refl _ _).drew).below HWR.out).below hbn).below hb35).below hb36) (by omega) (by omega)).mono ?_
              rintro e w37 ⟨A_lo, n_lo, c_lo, rfl, o_lo, hb37, l_lo⟩
              go_wp2_with fail
              refine (nof_any (x := 1) (x' := 1) rfl (by rw [W_eq]; omega)).mono ?_
              rintro e w38 ⟨A_o, n_o, c_o, rfl, o_o, hb38, l_o⟩
              go_wp2_with fail
              refine (nadd_any ((((((o_n).num l_n).below hb35).below hb36).below hb37).below hb38) (o_o.num l_o) (by omega) (by omega)).mono ?_
              rintro e w39 ⟨A_su, n_su, c_su, rfl, o_su, hb39, l_su⟩
              go_wp2_with fail
              refine (mul_any (o_su.num l_su) ((((((((((((((H'.out.below ((Below.refl _ _).alloc (Nat.le_refl _) _)).below ((Below.refl _ _).alloc (Nat.le_refl _) _)).below hb31).below hb32).below hb33).below hb34).below (Below.refl _ _).drew).below HWR.out).below hbn).below hb35).below hb36).below hb37).below hb38).below hb39) (by omega) (by omega)).mono ?_
              rintro e w40 ⟨A_hi, n_hi, c_hi, rfl, o_hi, hb40, l_hi⟩
              go_wp2_with fail
              refine (CC1.out _ _ _ _ _ ((((o_lo.num l_lo).below hb38).below hb39).below hb40) (((((o_lf.num l_lf).below hb37).below hb38).below hb39).below hb40) (by omega) (by omega)).mono ?_
              rintro e w' ⟨rfl, rfl⟩
              go_wp2_with fail
              refine (CC2.out _ _ _ _ _ (((((o_lf.num l_lf).below hb37).below hb38).below hb39).below hb40) (o_hi.num l_hi) (by omega) (by omega)).mono ?_
              rintro e w' ⟨rfl, rfl⟩
              go_wp2_with fail
              refine (places_any (((((((((((((((H.out.below ((Below.refl _ _).alloc (Nat.le_refl _) _)).below ((Below.refl _ _).alloc (Nat.le_refl _) _)).below hb31).below hb32).below hb33).below hb34).below (Below.refl _ _).drew).below HWR.out).below hbn).below hb35).below hb36).below hb37).below hb38).below hb39).below hb40) (((((((((((((((H'.out.below ((Below.refl _ _).alloc (Nat.le_refl _) _)).below ((Below.refl _ _).alloc (Nat.le_refl _) _)).below hb31).below hb32).below hb33).below hb34).below (Below.refl _ _).drew).below HWR.out).below hbn).below hb35).below hb36).below hb37).below hb38).below hb39).below hb40) HD0.out (by omega) (by omega)).mono ?_
              rintro e wq ⟨nx, bx, rfl, hbq, hpl⟩
              have hex := plOk_exact (p := 5) HD0.out hpl
              rw [← HZ3.out] at hex
              rcases hpl with ⟨rfl, hp1, hp2, hp3⟩ | ⟨rfl, rfl, hp2⟩
              · by_cases hle : nx ≤ 5
                · have f1 : decide ((nx : Int) ≤ 5) = true := by simp; omega
                  rw [decide_eq_true hle] at hex
                  have f2 : (z1 == 0) = true := hex
                  clear hp1 hp2 hp3 hex
                  go_wp2_with fail
                  refine (CC1.out _ _ _ _ _ (((((o_lo.num l_lo).below hb38).below hb39).below hb40).below hbq) ((((((o_lf.num l_lf).below hb37).below hb38).below hb39).below hb40).below hbq) (by omega) (by omega)).mono ?_
                  rintro e w' ⟨rfl, rfl⟩
                  have HEND := Lib.hid (bt (bt (bt (bt (bt (bt (bt (bt (bt (bt (bt (bt (bt (bt (bt ((Below.refl _ _).alloc (Nat.le_refl _) _) ((Below.refl _ _).alloc (Nat.le_refl _) _)) hb31) hb32) hb33) hb34) (Below.refl _ _).drew) HWR.out) hbn) hb35) hb36) hb37) hb38) hb39) hb40) hbq)
                  go_wp2
                  go_ret
                  exact ⟨by simp, HEND.out⟩
                · have f1 : decide ((nx : Int) ≤ 5) = false := by simp; omega
                  rw [decide_eq_false hle] at hex
                  have f2 : (z1 == 0) = false := hex
                  clear hp1 hp2 hp3 hex
                  go_wp2_with fail
                  refine (CC1.out _ _ _ _ _ (((((o_lo.num l_lo).below hb38).below hb39).below hb40).below hbq) ((((((o_lf.num l_lf).below hb37).below hb38).below hb39).below hb40).below hbq) (by omega) (by omega)).mono ?_
                  rintro e w' ⟨rfl, rfl⟩
                  have HEND := Lib.hid (bt (bt (bt (bt (bt (bt (bt (bt (bt (bt (bt (bt (bt (bt (bt ((Below.refl _ _).alloc (Nat.le_refl _) _) ((Below.refl _ _).alloc (Nat.le_refl _) _)) hb31) hb32) hb33) hb34) (Below.refl _ _).drew) HWR.out) hbn) hb35) hb36) hb37) hb38) hb39) hb40) hbq)
                  go_wp2
                  go_ret
                  exact ⟨by simp, HEND.out⟩
              · have f2 : (z1 == 0) = false := hex
                clear hp2 hex
                go_wp2_with fail
                refine (CC1.out _ _ _ _ _ (((((o_lo.num l_lo).below hb38).below hb39).below hb40).below hbq) ((((((o_lf.num l_lf).below hb37).below hb38).below hb39).below hb40).below hbq) (by omega) (by omega)).mono ?_
                rintro e w' ⟨rfl, rfl⟩
                have HEND := Lib.hid (bt (bt (bt (bt (bt (bt (bt (bt (bt (bt (bt (bt (bt (bt (bt ((Below.refl _ _).alloc (Nat.le_refl _) _) ((Below.refl _ _).alloc (Nat.le_refl _) _)) hb31) hb32) hb33) hb34) (Below.refl _ _).drew) HWR.out) hbn) hb35) hb36) hb37) hb38) hb39) hb40) hbq)
                go_wp2
                go_ret
                exact ⟨by simp, HEND.out⟩
            · have e1 : decide ((1 : Int) < (TX.size : Int)) = false := by simp; omega
              have e4 : TX.size ≤ 1 := by omega
              clear ht
              go_wp2_with fail
              refine (rparse_any (s := TX) ((((((((HS.out.below ((Below.refl _ _).alloc (Nat.le_refl _) _)).below ((Below.refl _ _).alloc (Nat.le_refl _) _)).below hb31).below hb32).below hb33).below hb34).below (Below.refl _ _).drew).below HWR.out) (by omega)).mono ?_
              rintro e wp hp
              rw [HTX.out] at hp
              obtain ⟨A_n, n_n, c_n, rfl, o_n, hbn, l_n⟩ := hp.txt (by omega) (by omega) HXW.out
              clear hp
              go_wp2_with fail
              refine (rten_le (N := 5) (by omega) (by omega)).mono ?_
              rintro e w46 ⟨A_t, n_t, c_t, rfl, o_t, hb46, l_t⟩
              go_wp2_with fail
              refine (mul_any ((((((((((H.out.below ((Below.refl _ _).alloc (Nat.le_refl _) _)).below ((Below.refl _ _).alloc (Nat.le_refl _) _)).below hb31).below hb32).below hb33).below hb34).below (Below.refl _ _).drew).below HWR.out).below hbn).below hb46) (o_t.num l_t) (by omega) (by omega)).mono ?_
              rintro e w47 ⟨A_lf, n_lf, c_lf, rfl, o_lf, hb47, l_lf⟩
              go_wp2_with fail
              refine (mul_any ((((o_n).num l_n).below hb46).below hb47) (((((((((((H'.out.below ((Below.refl _ _).alloc (Nat.le_refl _) _)).below ((Below.refl _ _).alloc (Nat.le_refl _) _)).below hb31).below hb32).below hb33).below hb34).below (Below.refl _ _).drew).below HWR.out).below hbn).below hb46).below hb47) (by omega) (by omega)).mono ?_
              rintro e w48 ⟨A_lo, n_lo, c_lo, rfl, o_lo, hb48, l_lo⟩
              go_wp2_with fail
              refine (nof_any (x := 1) (x' := 1) rfl (by rw [W_eq]; omega)).mono ?_
              rintro e w49 ⟨A_o, n_o, c_o, rfl, o_o, hb49, l_o⟩
              go_wp2_with fail
              refine (nadd_any ((((((o_n).num l_n).below hb46).below hb47).below hb48).below hb49) (o_o.num l_o) (by omega) (by omega)).mono ?_
              rintro e w50 ⟨A_su, n_su, c_su, rfl, o_su, hb50, l_su⟩
              go_wp2_with fail
              refine (mul_any (o_su.num l_su) ((((((((((((((H'.out.below ((Below.refl _ _).alloc (Nat.le_refl _) _)).below ((Below.refl _ _).alloc (Nat.le_refl _) _)).below hb31).below hb32).below hb33).below hb34).below (Below.refl _ _).drew).below HWR.out).below hbn).below hb46).below hb47).below hb48).below hb49).below hb50) (by omega) (by omega)).mono ?_
              rintro e w51 ⟨A_hi, n_hi, c_hi, rfl, o_hi, hb51, l_hi⟩
              go_wp2_with fail
              refine (CC1.out _ _ _ _ _ ((((o_lo.num l_lo).below hb49).below hb50).below hb51) (((((o_lf.num l_lf).below hb48).below hb49).below hb50).below hb51) (by omega) (by omega)).mono ?_
              rintro e w' ⟨rfl, rfl⟩
              go_wp2_with fail
              refine (CC2.out _ _ _ _ _ (((((o_lf.num l_lf).below hb48).below hb49).below hb50).below hb51) (o_hi.num l_hi) (by omega) (by omega)).mono ?_
              rintro e w' ⟨rfl, rfl⟩
              go_wp2_with fail
              refine (places_any (((((((((((((((H.out.below ((Below.refl _ _).alloc (Nat.le_refl _) _)).below ((Below.refl _ _).alloc (Nat.le_refl _) _)).below hb31).below hb32).below hb33).below hb34).below (Below.refl _ _).drew).below HWR.out).below hbn).below hb46).below hb47).below hb48).below hb49).below hb50).below hb51) (((((((((((((((H'.out.below ((Below.refl _ _).alloc (Nat.le_refl _) _)).below ((Below.refl _ _).alloc (Nat.le_refl _) _)).below hb31).below hb32).below hb33).below hb34).below (Below.refl _ _).drew).below HWR.out).below hbn).below hb46).below hb47).below hb48).below hb49).below hb50).below hb51) HD0.out (by omega) (by omega)).mono ?_
              rintro e wq ⟨nx, bx, rfl, hbq, hpl⟩
              have hex := plOk_exact (p := 5) HD0.out hpl
              rw [← HZ3.out] at hex
              rcases hpl with ⟨rfl, hp1, hp2, hp3⟩ | ⟨rfl, rfl, hp2⟩
              · by_cases hle : nx ≤ 5
                · have f1 : decide ((nx : Int) ≤ 5) = true := by simp; omega
                  rw [decide_eq_true hle] at hex
                  have f2 : (z1 == 0) = true := hex
                  clear hp1 hp2 hp3 hex
                  go_wp2_with fail
                  refine (CC1.out _ _ _ _ _ (((((o_lo.num l_lo).below hb49).below hb50).below hb51).below hbq) ((((((o_lf.num l_lf).below hb48).below hb49).below hb50).below hb51).below hbq) (by omega) (by omega)).mono ?_
                  rintro e w' ⟨rfl, rfl⟩
                  have HEND := Lib.hid (bt (bt (bt (bt (bt (bt (bt (bt (bt (bt (bt (bt (bt (bt (bt ((Below.refl _ _).alloc (Nat.le_refl _) _) ((Below.refl _ _).alloc (Nat.le_refl _) _)) hb31) hb32) hb33) hb34) (Below.refl _ _).drew) HWR.out) hbn) hb46) hb47) hb48) hb49) hb50) hb51) hbq)
                  go_wp2
                  go_ret
                  exact ⟨by simp, HEND.out⟩
                · have f1 : decide ((nx : Int) ≤ 5) = false := by simp; omega
                  rw [decide_eq_false hle] at hex
                  have f2 : (z1 == 0) = false := hex
                  clear hp1 hp2 hp3 hex
                  go_wp2_with fail
                  refine (CC1.out _ _ _ _ _ (((((o_lo.num l_lo).below hb49).below hb50).below hb51).below hbq) ((((((o_lf.num l_lf).below hb48).below hb49).below hb50).below hb51).below hbq) (by omega) (by omega)).mono ?_
                  rintro e w' ⟨rfl, rfl⟩
                  have HEND := Lib.hid (bt (bt (bt (bt (bt (bt (bt (bt (bt (bt (bt (bt (bt (bt (bt ((Below.refl _ _).alloc (Nat.le_refl _) _) ((Below.refl _ _).alloc (Nat.le_refl _) _)) hb31) hb32) hb33) hb34) (Below.refl _ _).drew) HWR.out) hbn) hb46) hb47) hb48) hb49) hb50) hb51) hbq)
                  go_wp2
                  go_ret
                  exact ⟨by simp, HEND.out⟩
              · have f2 : (z1 == 0) = false := hex
                clear hp2 hex
                go_wp2_with fail
                refine (CC1.out _ _ _ _ _ (((((o_lo.num l_lo).below hb49).below hb50).below hb51).below hbq) ((((((o_lf.num l_lf).below hb48).below hb49).below hb50).below hb51).below hbq) (by omega) (by omega)).mono ?_
                rintro e w' ⟨rfl, rfl⟩
                have HEND := Lib.hid (bt (bt (bt (bt (bt (bt (bt (bt (bt (bt (bt (bt (bt (bt (bt ((Below.refl _ _).alloc (Nat.le_refl _) _) ((Below.refl _ _).alloc (Nat.le_refl _) _)) hb31) hb32) hb33) hb34) (Below.refl _ _).drew) HWR.out) hbn) hb46) hb47) hb48) hb49) hb50) hb51) hbq)
                go_wp2
                go_ret
                exact ⟨by simp, HEND.out⟩
          · obtain ⟨i, rfl⟩ : ∃ i, j = i + 1 := ⟨j - 1, by omega⟩
            obtain ⟨y1, y2, y3⟩ := zt_step i X
            have HLT : Hid ((zt i X).size < (zt (i + 1) X).size) := by show _ < _; rw [zt_size, zt_size]; omega
            obtain ⟨V, hV⟩ : ∃ V, V = zt (i + 1) X := ⟨_, rfl⟩
            rw [← hV] at y1 y2 y3
            rw [← hV]
            rw [← hV] at HLT
            clear hV hj
            have e1 : decide ((1 : Int) < (V.size : Int)) = true := by simp; omega
            have e2 : 0 < V.size := by omega
            have h4 := byt_at V 0 e2
            have e3 : ((((V[0]'e2).toNat : Nat) : Int) == 48) = true := by rw [h4, y1]; rfl
            have e5 : 1 ≤ V.size := by omega
            clear h4 y1
            go_wp2
            go_roundw
            case rel => exact ⟨i, HWR, rfl⟩
            case measure => exact HLT.out
      · have d1 : decide (z < 1) = false := by simp; omega
        have d2 : decide (400 < z) = false := by simp; omega
        obtain ⟨q, rfl⟩ : ∃ q : Nat, z = (q : Int) := ⟨z.toNat, by omega⟩
        go_enter Tryd.func4, Tryd.ntmps4
        go_wp2_with fail
        refine (decimal_half (((Num.lit (t := 27) _ [7] (by simp) (by simp [W_eq, All])).mono (L' := 1) (by simp)).below ((Below.refl _ _).alloc (Nat.le_refl _) _)) ((Num.lit (t := 27) _ [2] (by simp) (by simp [W_eq, All])).mono (L' := 1) (by simp)) ((HS.out.below ((Below.refl _ _).alloc (Nat.le_refl _) _)).below ((Below.refl _ _).alloc (Nat.le_refl _) _)) (by omega) (by omega)).mono ?_
        rintro e w57 ⟨rfl, hb57⟩
        go_wp2_with fail
        refine (CZ.out _ _ (((H'.out.below ((Below.refl _ _).alloc (Nat.le_refl _) _)).below ((Below.refl _ _).alloc (Nat.le_refl _) _)).below hb57)).mono ?_
        rintro e w58 ⟨rfl, hb58⟩
        obtain ⟨F, G, m, k, c1, c2, c3, c4, c5, c6, c7, c8, c9, c10, c11⟩ := cut_parts (num := x) (p := q) HD0.out (by omega)
        have hmL : m ≤ 64 * L := by have := txt_len (b := 10) (x := x / y) (by omega) (Nat.lt_of_le_of_lt (Nat.div_le_self _ _) HXL.out) hL1; omega
        have CDP : Hid (∀ (w : World) (v u : Value), Num w v x L → Num w u y K → SG w → Calls Tryd.prog 6 #[v, u, .int .i64 (q:Int)] w (Keeps (.tuple #[.string (decT x y q), .int .i64 0]) w)) := fun w v u h1 h2 h3 => decimal_any h1 h2 h3 (by omega) HD0.out (by omega) (by omega) (by omega)
        have CDP1 : Hid (∀ (w : World) (v u : Value), Num w v x L → Num w u y K → SG w → Calls Tryd.prog 6 #[v, u, .int .i64 ((q:Int)+1)] w (Keeps (.tuple #[.string (decT x y (q + 1)), .int .i64 0]) w)) := fun w v u h1 h2 h3 => decimal_any h1 h2 h3 (by omega) HD0.out (by omega) (by omega) (by omega)
        obtain ⟨S, hS⟩ : ∃ S, S = decT x y q := ⟨_, rfl⟩
        obtain ⟨T, hT⟩ : ∃ T, T = decT x y (q + 1) := ⟨_, rfl⟩
        rw [← hS, ← hT] at c1 c2
        rw [← hS] at c3 c6 c7 c8 CDP
        rw [← hT] at CDP1
        clear hS hT
        obtain ⟨X, hX⟩ : ∃ X, X = x * 10 ^ q / y := ⟨_, rfl⟩
        rw [← hX] at c9
        have HXW : Hid (X < W ^ (L + (q + 1))) := by
          show _ < _
          rw [hX]
          refine Nat.lt_of_le_of_lt (Nat.div_le_self _ _) ?_
          rw [Nat.pow_add]
          refine Nat.mul_lt_mul_of_lt_of_lt HXL.out ?_
          exact Nat.lt_of_lt_of_le (Nat.pow_lt_pow_right (by omega) (by omega)) (Nat.pow_le_pow_left (by rw [W_eq]; omega) _)
        obtain ⟨z1, hz1⟩ : ∃ z1, z1 = cmpN (X * y) (x * 10 ^ q) := ⟨_, rfl⟩
        obtain ⟨z2, hz2⟩ : ∃ z2, z2 = cmpN (x * 10 ^ q) ((X + 1) * y) := ⟨_, rfl⟩
        have CC1 : Hid (∀ (w : World) (v u : Value) (L M : Nat), Num w v (X * y) L → Num w u (x * 10 ^ q) M → L ≤ 67108864 → M ≤ 67108864 → Calls Tryd.prog 17 #[v, u] w (fun e w' => e = .returned (.int .i64 z1) ∧ w = w')) := fun w v u L M h1 h2 h3 h4 => by rw [hz1]; exact ncmp_any h1 h2 (by omega) (by omega)
        have CC2 : Hid (∀ (w : World) (v u : Value) (L M : Nat), Num w v (x * 10 ^ q) L → Num w u ((X + 1) * y) M → L ≤ 67108864 → M ≤ 67108864 → Calls Tryd.prog 17 #[v, u] w (fun e w' => e = .returned (.int .i64 z2) ∧ w = w')) := fun w v u L M h1 h2 h3 h4 => by rw [hz2]; exact ncmp_any h1 h2 (by omega) (by omega)
        obtain ⟨dz1, dz2, hz3⟩ := cuts_cmp (num := x) (p := q) HD0.out hX
        rw [← hz1] at dz1 hz3
        rw [← hz2] at dz2
        have HZ3 := Lib.hid hz3
        obtain ⟨DG, hDG⟩ : ∃ DG, DG = zt k X := ⟨_, rfl⟩
        rw [← hDG] at c9
        have u0 : ∀ w, (Op.stringOp .add F G).run Tryd.prog w = .ok (.string DG) w := fun w => by rw [run_string_add_sum w _ _ (by omega), c9]
        obtain ⟨TX, hTX⟩ : ∃ TX, TX = txt 10 X := ⟨_, rfl⟩
        have hTXL : TX.size ≤ 64 * (L + (q + 1)) := by rw [hTX]; exact txt_len (b := 10) (by omega) HXW.out (by omega)
        have HTX := Lib.hid hTX
        have HDG := Lib.hid hDG
        have i3 : m < S.size := by omega
        have h46 := byt_at S m i3
        have q46 : ((((S[m]'i3).toNat : Nat) : Int) == 46) = true := by rw [h46, c6]; rfl
        have n1 : (T.size : Int) = (S.size : Int) + 1 := by omega
        have n2 : (S.size : Int) ≤ (T.size : Int) := by omega
        have n3 : decide ((S.size : Int) < ((q:Int)+2)) = false := by simp; omega
        have i1 : (0 : Int) ≤ (m : Int) := by omega
        have i2 : (m : Int) < (S.size : Int) := by omega
        have i4 : (m : Int) + 1 ≤ (S.size : Int) := by omega
        have i5 : S.size ≤ 4294967296 := by omega
        have i6 : m ≤ S.size := by omega
        have i7 : m + 1 ≤ S.size := by omega
        have i8 : (0 : Int) ≤ (m : Int) + 1 := by omega
        have v0 := lay (show (S.size : Int) - (q:Int) = (m : Int) + 1 from by omega)
        have v1 := lay (show IntKind.i64.wrap ((S.size : Int) - (q:Int)) = (m : Int) + 1 from by rw [IntWalk.i64_in _ (by omega)]; omega)
        have v2 := lay (show IntKind.i64.wrap ((m : Int) + 1) = (m : Int) + 1 from IntWalk.i64_in _ (by omega))
        have v3 := lay (show IntKind.i64.wrap (m : Int) = (m : Int) from IntWalk.i64_in _ (by omega))
        have v4 := lay (show (m : Int) + 1 - 1 = (m : Int) from by omega)
        clear h46 hz1 hz2 hz3 hX hTX hDG c1 c3 c4 c5 c6 c9 c10 c11
        go_wp2_with fail
        refine (CDP.out _ _ _ ((((H.out.below ((Below.refl _ _).alloc (Nat.le_refl _) _)).below ((Below.refl _ _).alloc (Nat.le_refl _) _)).below hb57).below hb58) ((((H'.out.below ((Below.refl _ _).alloc (Nat.le_refl _) _)).below ((Below.refl _ _).alloc (Nat.le_refl _) _)).below hb57).below hb58) ((((HS.out.below ((Below.refl _ _).alloc (Nat.le_refl _) _)).below ((Below.refl _ _).alloc (Nat.le_refl _) _)).below hb57).below hb58)).mono ?_
        rintro e w59 ⟨rfl, hb59⟩
        go_wp2_with fail
        refine (CDP1.out _ _ _ (((((H.out.below ((Below.refl _ _).alloc (Nat.le_refl _) _)).below ((Below.refl _ _).alloc (Nat.le_refl _) _)).below hb57).below hb58).below hb59) (((((H'.out.below ((Below.refl _ _).alloc (Nat.le_refl _) _)).below ((Below.refl _ _).alloc (Nat.le_refl _) _)).below hb57).below hb58).below hb59) (((((HS.out.below ((Below.refl _ _).alloc (Nat.le_refl _) _)).below ((Below.refl _ _).alloc (Nat.le_refl _) _)).below hb57).below hb58).below hb59)).mono ?_
        rintro e w60 ⟨rfl, hb60⟩
        go_wp2_with fail
        refine wp_region_grow none [(true, 0), (true, 1), (true, 2), (true, 3), (true, 4), (true, 5), (true, 6), (true, 7), (true, 8)] (by kernel_rfl) (by kernel_rfl) ?_
        repeat (refine ord_pas (by rfl) (fun K hK => ?_); go_simp; refine hK _ _ (fun w' hw' => (by first | (go_simp; done) | (go_simp; intro hh; cases hh))) ?_; clear hK K)

        refine ord_nil ?_
        clear n1 n2 n3 q46 u0 c2 c7 c8
        go_wp2
        go_loopw [13] (fun dv wr => ∃ j, Hid (Below ((World.drew w60)).heap.size ((World.drew w60)) wr) ∧ dv = .string (zt j X)) (fun dv _ => szOf dv)
        case atStart => exact ⟨k, Below.refl _ _, by rw [← HDG.out]⟩
        case round =>
          obtain ⟨j, HWR, rfl⟩ := hrel
          rcases Nat.eq_zero_or_pos j with hj | hj
          · subst hj
            rw [zt_zero, ← HTX.out]
            by_cases ht : 1 < TX.size
            · have e1 : decide ((1 : Int) < (TX.size : Int)) = true := by simp; omega
              have e2 : 0 < TX.size := by omega
              have h4 := byt_at TX 0 e2
              have e3 : ((((TX[0]'e2).toNat : Nat) : Int) == 48) = false := by
                rw [h4, beq_eq_false_iff_ne]
                have := txt_first X (by rw [← HTX.out]; exact ht)
                rw [← HTX.out] at this
                omega
              clear h4
              go_wp2_with fail
              refine (rparse_any (s := TX) ((((((((HS.out.below ((Below.refl _ _).alloc (Nat.le_refl _) _)).below ((Below.refl _ _).alloc (Nat.le_refl _) _)).below hb57).below hb58).below hb59).below hb60).below (Below.refl _ _).drew).below HWR.out) (by omega)).mono ?_
              rintro e wp hp
              rw [HTX.out] at hp
              obtain ⟨A_n, n_n, c_n, rfl, o_n, hbn, l_n⟩ := hp.txt (by omega) (by omega) HXW.out
              clear hp
              go_wp2_with fail
              refine (rten_le (N := q) (by omega) (by omega)).mono ?_
              rintro e w61 ⟨A_t, n_t, c_t, rfl, o_t, hb61, l_t⟩
              go_wp2_with fail
              refine (mul_any ((((((((((H.out.below ((Below.refl _ _).alloc (Nat.le_refl _) _)).below ((Below.refl _ _).alloc (Nat.le_refl _) _)).below hb57).below hb58).below hb59).below hb60).below (Below.refl _ _).drew).below HWR.out).below hbn).below hb61) (o_t.num l_t) (by omega) (by omega)).mono ?_
              rintro e w62 ⟨A_lf, n_lf, c_lf, rfl, o_lf, hb62, l_lf⟩
              go_wp2_with fail
              refine (mul_any ((((o_n).num l_n).below hb61).below hb62) (((((((((((H'.out.below ((Below.refl _ _).alloc (Nat.le_refl _) _)).below ((Below.refl _ _).alloc (Nat.le_refl _) _)).below hb57).below hb58).below hb59).below hb60).below (Below.refl _ _).drew).below HWR.out).below hbn).below hb61).below hb62) (by omega) (by omega)).mono ?_
              rintro e w63 ⟨A_lo, n_lo, c_lo, rfl, o_lo, hb63, l_lo⟩
              go_wp2_with fail
              refine (nof_any (x := 1) (x' := 1) rfl (by rw [W_eq]; omega)).mono ?_
              rintro e w64 ⟨A_o, n_o, c_o, rfl, o_o, hb64, l_o⟩
              go_wp2_with fail
              refine (nadd_any ((((((o_n).num l_n).below hb61).below hb62).below hb63).below hb64) (o_o.num l_o) (by omega) (by omega)).mono ?_
              rintro e w65 ⟨A_su, n_su, c_su, rfl, o_su, hb65, l_su⟩
              go_wp2_with fail
              refine (mul_any (o_su.num l_su) ((((((((((((((H'.out.below ((Below.refl _ _).alloc (Nat.le_refl _) _)).below ((Below.refl _ _).alloc (Nat.le_refl _) _)).below hb57).below hb58).below hb59).below hb60).below (Below.refl _ _).drew).below HWR.out).below hbn).below hb61).below hb62).below hb63).below hb64).below hb65) (by omega) (by omega)).mono ?_
              rintro e w66 ⟨A_hi, n_hi, c_hi, rfl, o_hi, hb66, l_hi⟩
              go_wp2_with fail
              refine (CC1.out _ _ _ _ _ ((((o_lo.num l_lo).below hb64).below hb65).below hb66) (((((o_lf.num l_lf).below hb63).below hb64).below hb65).below hb66) (by omega) (by omega)).mono ?_
              rintro e w' ⟨rfl, rfl⟩
              go_wp2_with fail
              refine (CC2.out _ _ _ _ _ (((((o_lf.num l_lf).below hb63).below hb64).below hb65).below hb66) (o_hi.num l_hi) (by omega) (by omega)).mono ?_
              rintro e w' ⟨rfl, rfl⟩
              go_wp2_with fail
              refine (places_any (((((((((((((((H.out.below ((Below.refl _ _).alloc (Nat.le_refl _) _)).below ((Below.refl _ _).alloc (Nat.le_refl _) _)).below hb57).below hb58).below hb59).below hb60).below (Below.refl _ _).drew).below HWR.out).below hbn).below hb61).below hb62).below hb63).below hb64).below hb65).below hb66) (((((((((((((((H'.out.below ((Below.refl _ _).alloc (Nat.le_refl _) _)).below ((Below.refl _ _).alloc (Nat.le_refl _) _)).below hb57).below hb58).below hb59).below hb60).below (Below.refl _ _).drew).below HWR.out).below hbn).below hb61).below hb62).below hb63).below hb64).below hb65).below hb66) HD0.out (by omega) (by omega)).mono ?_
              rintro e wq ⟨nx, bx, rfl, hbq, hpl⟩
              have hex := plOk_exact (p := q) HD0.out hpl
              rw [← HZ3.out] at hex
              rcases hpl with ⟨rfl, hp1, hp2, hp3⟩ | ⟨rfl, rfl, hp2⟩
              · by_cases hle : nx ≤ q
                · have f1 : decide ((nx : Int) ≤ (q:Int)) = true := by simp; omega
                  rw [decide_eq_true hle] at hex
                  have f2 : (z1 == 0) = true := hex
                  clear hp1 hp2 hp3 hex
                  go_wp2_with fail
                  refine (CC1.out _ _ _ _ _ (((((o_lo.num l_lo).below hb64).below hb65).below hb66).below hbq) ((((((o_lf.num l_lf).below hb63).below hb64).below hb65).below hb66).below hbq) (by omega) (by omega)).mono ?_
                  rintro e w' ⟨rfl, rfl⟩
                  have HEND := Lib.hid (bt (bt (bt (bt (bt (bt (bt (bt (bt (bt (bt (bt (bt (bt (bt ((Below.refl _ _).alloc (Nat.le_refl _) _) ((Below.refl _ _).alloc (Nat.le_refl _) _)) hb57) hb58) hb59) hb60) (Below.refl _ _).drew) HWR.out) hbn) hb61) hb62) hb63) hb64) hb65) hb66) hbq)
                  go_wp2
                  go_ret
                  exact ⟨by simp, HEND.out⟩
                · have f1 : decide ((nx : Int) ≤ (q:Int)) = false := by simp; omega
                  rw [decide_eq_false hle] at hex
                  have f2 : (z1 == 0) = false := hex
                  clear hp1 hp2 hp3 hex
                  go_wp2_with fail
                  refine (CC1.out _ _ _ _ _ (((((o_lo.num l_lo).below hb64).below hb65).below hb66).below hbq) ((((((o_lf.num l_lf).below hb63).below hb64).below hb65).below hb66).below hbq) (by omega) (by omega)).mono ?_
                  rintro e w' ⟨rfl, rfl⟩
                  have HEND := Lib.hid (bt (bt (bt (bt (bt (bt (bt (bt (bt (bt (bt (bt (bt (bt (bt ((Below.refl _ _).alloc (Nat.le_refl _) _) ((Below.refl _ _).alloc (Nat.le_refl _) _)) hb57) hb58) hb59) hb60) (Below.refl _ _).drew) HWR.out) hbn) hb61) hb62) hb63) hb64) hb65) hb66) hbq)
                  go_wp2
                  go_ret
                  exact ⟨by simp, HEND.out⟩
              · have f2 : (z1 == 0) = false := hex
                clear hp2 hex
                go_wp2_with fail
                refine (CC1.out _ _ _ _ _ (((((o_lo.num l_lo).below hb64).below hb65).below hb66).below hbq) ((((((o_lf.num l_lf).below hb63).below hb64).below hb65).below hb66).below hbq) (by omega) (by omega)).mono ?_
                rintro e w' ⟨rfl, rfl⟩
                have HEND := Lib.hid (bt (bt (bt (bt (bt (bt (bt (bt (bt (bt (bt (bt (bt (bt (bt ((Below.refl _ _).alloc (Nat.le_refl _) _) ((Below.refl _ _).alloc (Nat.le_refl _) _)) hb57) hb58) hb59) hb60) (Below.refl _ _).drew) HWR.out) hbn) hb61) hb62) hb63) hb64) hb65) hb66) hbq)
                go_wp2
                go_ret
                exact ⟨by simp, HEND.out⟩
            · have e1 : decide ((1 : Int) < (TX.size : Int)) = false := by simp; omega
              have e4 : TX.size ≤ 1 := by omega
              clear ht
              go_wp2_with fail
              refine (rparse_any (s := TX) ((((((((HS.out.below ((Below.refl _ _).alloc (Nat.le_refl _) _)).below ((Below.refl _ _).alloc (Nat.le_refl _) _)).below hb57).below hb58).below hb59).below hb60).below (Below.refl _ _).drew).below HWR.out) (by omega)).mono ?_
              rintro e wp hp
              rw [HTX.out] at hp
              obtain ⟨A_n, n_n, c_n, rfl, o_n, hbn, l_n⟩ := hp.txt (by omega) (by omega) HXW.out
              clear hp
              go_wp2_with fail
              refine (rten_le (N := q) (by omega) (by omega)).mono ?_
              rintro e w72 ⟨A_t, n_t, c_t, rfl, o_t, hb72, l_t⟩
              go_wp2_with fail
              refine (mul_any ((((((((((H.out.below ((Below.refl _ _).alloc (Nat.le_refl _) _)).below ((Below.refl _ _).alloc (Nat.le_refl _) _)).below hb57).below hb58).below hb59).below hb60).below (Below.refl _ _).drew).below HWR.out).below hbn).below hb72) (o_t.num l_t) (by omega) (by omega)).mono ?_
              rintro e w73 ⟨A_lf, n_lf, c_lf, rfl, o_lf, hb73, l_lf⟩
              go_wp2_with fail
              refine (mul_any ((((o_n).num l_n).below hb72).below hb73) (((((((((((H'.out.below ((Below.refl _ _).alloc (Nat.le_refl _) _)).below ((Below.refl _ _).alloc (Nat.le_refl _) _)).below hb57).below hb58).below hb59).below hb60).below (Below.refl _ _).drew).below HWR.out).below hbn).below hb72).below hb73) (by omega) (by omega)).mono ?_
              rintro e w74 ⟨A_lo, n_lo, c_lo, rfl, o_lo, hb74, l_lo⟩
              go_wp2_with fail
              refine (nof_any (x := 1) (x' := 1) rfl (by rw [W_eq]; omega)).mono ?_
              rintro e w75 ⟨A_o, n_o, c_o, rfl, o_o, hb75, l_o⟩
              go_wp2_with fail
              refine (nadd_any ((((((o_n).num l_n).below hb72).below hb73).below hb74).below hb75) (o_o.num l_o) (by omega) (by omega)).mono ?_
              rintro e w76 ⟨A_su, n_su, c_su, rfl, o_su, hb76, l_su⟩
              go_wp2_with fail
              refine (mul_any (o_su.num l_su) ((((((((((((((H'.out.below ((Below.refl _ _).alloc (Nat.le_refl _) _)).below ((Below.refl _ _).alloc (Nat.le_refl _) _)).below hb57).below hb58).below hb59).below hb60).below (Below.refl _ _).drew).below HWR.out).below hbn).below hb72).below hb73).below hb74).below hb75).below hb76) (by omega) (by omega)).mono ?_
              rintro e w77 ⟨A_hi, n_hi, c_hi, rfl, o_hi, hb77, l_hi⟩
              go_wp2_with fail
              refine (CC1.out _ _ _ _ _ ((((o_lo.num l_lo).below hb75).below hb76).below hb77) (((((o_lf.num l_lf).below hb74).below hb75).below hb76).below hb77) (by omega) (by omega)).mono ?_
              rintro e w' ⟨rfl, rfl⟩
              go_wp2_with fail
              refine (CC2.out _ _ _ _ _ (((((o_lf.num l_lf).below hb74).below hb75).below hb76).below hb77) (o_hi.num l_hi) (by omega) (by omega)).mono ?_
              rintro e w' ⟨rfl, rfl⟩
              go_wp2_with fail
              refine (places_any (((((((((((((((H.out.below ((Below.refl _ _).alloc (Nat.le_refl _) _)).below ((Below.refl _ _).alloc (Nat.le_refl _) _)).below hb57).below hb58).below hb59).below hb60).below (Below.refl _ _).drew).below HWR.out).below hbn).below hb72).below hb73).below hb74).below hb75).below hb76).below hb77) (((((((((((((((H'.out.below ((Below.refl _ _).alloc (Nat.le_refl _) _)).below ((Below.refl _ _).alloc (Nat.le_refl _) _)).below hb57).below hb58).below hb59).below hb60).below (Below.refl _ _).drew).below HWR.out).below hbn).below hb72).below hb73).below hb74).below hb75).below hb76).below hb77) HD0.out (by omega) (by omega)).mono ?_
              rintro e wq ⟨nx, bx, rfl, hbq, hpl⟩
              have hex := plOk_exact (p := q) HD0.out hpl
              rw [← HZ3.out] at hex
              rcases hpl with ⟨rfl, hp1, hp2, hp3⟩ | ⟨rfl, rfl, hp2⟩
              · by_cases hle : nx ≤ q
                · have f1 : decide ((nx : Int) ≤ (q:Int)) = true := by simp; omega
                  rw [decide_eq_true hle] at hex
                  have f2 : (z1 == 0) = true := hex
                  clear hp1 hp2 hp3 hex
                  go_wp2_with fail
                  refine (CC1.out _ _ _ _ _ (((((o_lo.num l_lo).below hb75).below hb76).below hb77).below hbq) ((((((o_lf.num l_lf).below hb74).below hb75).below hb76).below hb77).below hbq) (by omega) (by omega)).mono ?_
                  rintro e w' ⟨rfl, rfl⟩
                  have HEND := Lib.hid (bt (bt (bt (bt (bt (bt (bt (bt (bt (bt (bt (bt (bt (bt (bt ((Below.refl _ _).alloc (Nat.le_refl _) _) ((Below.refl _ _).alloc (Nat.le_refl _) _)) hb57) hb58) hb59) hb60) (Below.refl _ _).drew) HWR.out) hbn) hb72) hb73) hb74) hb75) hb76) hb77) hbq)
                  go_wp2
                  go_ret
                  exact ⟨by simp, HEND.out⟩
                · have f1 : decide ((nx : Int) ≤ (q:Int)) = false := by simp; omega
                  rw [decide_eq_false hle] at hex
                  have f2 : (z1 == 0) = false := hex
                  clear hp1 hp2 hp3 hex
                  go_wp2_with fail
                  refine (CC1.out _ _ _ _ _ (((((o_lo.num l_lo).below hb75).below hb76).below hb77).below hbq) ((((((o_lf.num l_lf).below hb74).below hb75).below hb76).below hb77).below hbq) (by omega) (by omega)).mono ?_
                  rintro e w' ⟨rfl, rfl⟩
                  have HEND := Lib.hid (bt (bt (bt (bt (bt (bt (bt (bt (bt (bt (bt (bt (bt (bt (bt ((Below.refl _ _).alloc (Nat.le_refl _) _) ((Below.refl _ _).alloc (Nat.le_refl _) _)) hb57) hb58) hb59) hb60) (Below.refl _ _).drew) HWR.out) hbn) hb72) hb73) hb74) hb75) hb76) hb77) hbq)
                  go_wp2
                  go_ret
                  exact ⟨by simp, HEND.out⟩
              · have f2 : (z1 == 0) = false := hex
                clear hp2 hex
                go_wp2_with fail
                refine (CC1.out _ _ _ _ _ (((((o_lo.num l_lo).below hb75).below hb76).below hb77).below hbq) ((((((o_lf.num l_lf).below hb74).below hb75).below hb76).below hb77).below hbq) (by omega) (by omega)).mono ?_
                rintro e w' ⟨rfl, rfl⟩
                have HEND := Lib.hid (bt (bt (bt (bt (bt (bt (bt (bt (bt (bt (bt (bt (bt (bt (bt ((Below.refl _ _).alloc (Nat.le_refl _) _) ((Below.refl _ _).alloc (Nat.le_refl _) _)) hb57) hb58) hb59) hb60) (Below.refl _ _).drew) HWR.out) hbn) hb72) hb73) hb74) hb75) hb76) hb77) hbq)
                go_wp2
                go_ret
                exact ⟨by simp, HEND.out⟩
          · obtain ⟨i, rfl⟩ : ∃ i, j = i + 1 := ⟨j - 1, by omega⟩
            obtain ⟨y1, y2, y3⟩ := zt_step i X
            have HLT : Hid ((zt i X).size < (zt (i + 1) X).size) := by show _ < _; rw [zt_size, zt_size]; omega
            obtain ⟨V, hV⟩ : ∃ V, V = zt (i + 1) X := ⟨_, rfl⟩
            rw [← hV] at y1 y2 y3
            rw [← hV]
            rw [← hV] at HLT
            clear hV hj
            have e1 : decide ((1 : Int) < (V.size : Int)) = true := by simp; omega
            have e2 : 0 < V.size := by omega
            have h4 := byt_at V 0 e2
            have e3 : ((((V[0]'e2).toNat : Nat) : Int) == 48) = true := by rw [h4, y1]; rfl
            have e5 : 1 ≤ V.size := by omega
            clear h4 y1
            go_wp2
            go_roundw
            case rel => exact ⟨i, HWR, rfl⟩
            case measure => exact HLT.out
end Go.Proofs.YtjglonmnjcnhbaaDoor
