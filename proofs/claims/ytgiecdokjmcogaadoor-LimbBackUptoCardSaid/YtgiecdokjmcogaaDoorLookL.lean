/-
  LimbLooks: Trim, Cmp, Bits, Bit and Zeros of any lists are the document's.
-/
import Derived.Test.YtgiecdokjmcogaaDoorLookB
namespace Go.Proofs.YtgiecdokjmcogaaDoor
open Go.RowKit
set_option linter.unusedVariables false

theorem At.grow0 {w : World} {p : Addr} {v : Value} (h : At w p v) : ∀ w', Grow none w w' → w'.cell? p = some v := fun w' g => g.cell (p := p) (v := v) h.1 (by simp)
theorem lbits_nb {A : Option Addr} {n c : Nat} {xs : List Nat} {w : World} (h : Rd .u64 w A n c xs) (hx : All W xs) (hn : n ≤ 17179869184) :
    Calls Tryd.prog 12 #[.slice A n c] w (fun e w' => e = .returned (.int .i64 ((nb (val W xs) : Nat) : Int)) ∧ w = w') := by
  rw [← nbits_val hx]
  exact lbits_any h hx hn
theorem bit_both {xs : List Nat} {n : Nat} {z : Int} (hz : z ≤ 9223372036854775807) (hx : All W xs) (hn : n ≤ 4294967296) : ∃ (b u : Int),
    (∀ ⦃A : Option Addr⦄ ⦃c : Nat⦄ ⦃w : World⦄, Rd .u64 w A n c xs → Calls Tryd.prog 16 #[.slice A n c, .int .i64 z] w (fun e w' => e = .returned (.tuple #[.int .u64 b, .int .i64 u]) ∧ w = w')) ∧
    (∀ ⦃A : Option Addr⦄ ⦃c : Nat⦄ ⦃w : World⦄, Rd .u64 w A n c xs → Calls Tryd.prog 17 #[.slice A n c, .int .i64 z] w (Keeps (.tuple #[.int .u64 b, .int .i64 u]) w)) := by
  by_cases h : z < 0
  · exact ⟨0, 3, fun _ _ _ _ => lbit_neg h, fun _ _ _ _ => rbit1_neg h⟩
  · obtain ⟨s, rfl⟩ : ∃ s : Nat, z = (s : Int) := ⟨z.toNat, by omega⟩
    exact ⟨_, _, fun _ _ _ h1 => lbit_any h1 hx rfl (by omega) (by omega), fun _ _ _ h1 => rbit1_any h1 hx rfl (by omega) hn⟩

set_option maxHeartbeats 8000000 in
set_option maxRecDepth 100000 in
theorem limbLooks_any {x y z c n ca m cb : Nat} {N : Int} {A B : Option Addr} {xs ys : List Nat} {w : World} (ht : TZ w) (h : Rd .u64 w A n ca xs) (h' : Rd .u64 w B m cb ys) (ha : All W xs) (hb : All W ys) (hn : n ≤ 1048576) (hm : m ≤ 1048576) (hN : N ≤ 9223372036854775807) :
    Calls Tryd.prog 3 #[.agg #[.int .u64 (x : Int), .int .u64 (y : Int), .int .u64 (z : Int), .int .u64 (c : Int), .slice A n ca, .slice B m cb, .int .i64 N]] w (Keeps (.bool true) w) := by
  obtain ⟨b2, u2, P2, Q2⟩ := bit_both (n := n) hN ha (by omega)
  have HP2 := Lib.hid P2
  have HQ2 := Lib.hid Q2
  have H := Lib.hid h
  have H' := Lib.hid h'
  have HA := Lib.hid ha
  have HB := Lib.hid hb
  have HT := Lib.hid ht
  have E0 : Hid (cmpN (val W xs) (val W xs) = 0) := by show _ = _; rw [cmpN, if_neg (Nat.lt_irrefl _), if_neg (Nat.lt_irrefl _)]
  clear h h' ha hb ht P2 Q2
  go_enter Tryd.func3, Tryd.ntmps3
  go_wp2_with fail
  refine (fixed_any _).mono ?_
  rintro e w1 ⟨rfl, hb1⟩
  go_wp2_with fail
  have e_f4 := ((At.box (i := 4) _ _ rfl).below hb1).1
  have g_f4 := At.grow ((At.box (i := 4) _ _ rfl).below hb1)
  have e_f5 := ((At.box (i := 5) _ _ rfl).below hb1).1
  have g_f5 := At.grow ((At.box (i := 5) _ _ rfl).below hb1)
  refine wp_region_grow none [(true, 0), (true, 1), (true, 4), (true, 5), (false, 2), (false, 3), (false, 6), (false, 7), (true, 8), (true, 9), (true, 10), (true, 11), (true, 13), (true, 14), (true, 17), (true, 18), (true, 19), (true, 20), (false, 12), (false, 15), (false, 16), (false, 21), (true, 22), (true, 23), (true, 24), (true, 25), (true, 26), (true, 28), (true, 29), (false, 27), (false, 30), (false, 31), (true, 32), (true, 33)] (by kernel_rfl) (by kernel_rfl) ?_
  repeat (refine ord_pas (by rfl) (fun K hK => ?_); go_simp; refine hK _ _ (fun w' hw' => (by first | (go_simp; done) | (go_simp; intro hh; cases hh))) ?_; clear hK K)
  (refine ord_call (by rfl) (fun K hK => ?_); go_simp; refine hK _ _ ?_; clear hK K)
  refine (copiedC_any (((H.out.below ((Below.refl _ _).alloc (Nat.le_refl _) _)).below hb1).below (Below.refl _ _).drew) (by omega)).mono ?_
  rintro e w2 ⟨A_a1, c_a1, rfl, o_a1, hb2⟩
  refine ⟨_, rfl, Grow.of_below hb2, ?_⟩
  (refine ord_norm (fun K hK => ?_); go_simp; refine hK _ ?_; clear hK K)
  (refine ord_call (by rfl) (fun K hK => ?_); go_simp; refine hK _ _ ?_; clear hK K)
  refine (trim_any _ _ _ _ _ o_a1.rd (by omega)).mono ?_
  rintro e w3 ⟨A_t1, n_t1, c_t1, rfl, o_t1, hb3⟩
  refine ⟨_, rfl, Grow.of_below hb3, ?_⟩
  (refine ord_norm (fun K hK => ?_); go_simp; refine hK _ ?_; clear hK K)
  (refine ord_call (by rfl) (fun K hK => ?_); go_simp; refine hK _ _ ?_; clear hK K)
  refine (rtrim1_any (((((H.out.below ((Below.refl _ _).alloc (Nat.le_refl _) _)).below hb1).below (Below.refl _ _).drew).below hb2).below hb3) (by omega)).mono ?_
  rintro e w4 ⟨A_t2, n_t2, c_t2, rfl, o_t2, hb4⟩
  refine ⟨_, rfl, Grow.of_below hb4, ?_⟩
  (refine ord_norm (fun K hK => ?_); go_simp; refine hK _ ?_; clear hK K)
  (refine ord_call (by rfl) (fun K hK => ?_); go_simp; refine hK _ _ ?_; clear hK K)
  refine (same1_yes (o_t1.rd.below hb4) o_t2.rd rfl (by have := o_t1.len; have := strip_length_le xs; have := H.out.len; omega)).mono ?_
  rintro e w5 ⟨rfl, hb5⟩
  refine ⟨_, rfl, Grow.of_below hb5, ?_⟩
  (refine ord_norm (fun K hK => ?_); go_simp; refine hK _ ?_; clear hK K)
  clear o_t1 o_t2
  have em_f4 := (((((((At.box (i := 4) _ _ rfl).below hb1).below (Below.refl _ _).drew).below hb2).below hb3).below hb4).below hb5).1
  have gm_f4 := At.grow0 (((((((At.box (i := 4) _ _ rfl).below hb1).below (Below.refl _ _).drew).below hb2).below hb3).below hb4).below hb5)
  have em_f5 := (((((((At.box (i := 5) _ _ rfl).below hb1).below (Below.refl _ _).drew).below hb2).below hb3).below hb4).below hb5).1
  have gm_f5 := At.grow0 (((((((At.box (i := 5) _ _ rfl).below hb1).below (Below.refl _ _).drew).below hb2).below hb3).below hb4).below hb5)
  repeat (refine ord_pas (by rfl) (fun K hK => ?_); go_simp; refine hK _ _ (fun w' hw' => (by first | (go_simp; done) | (go_simp; intro hh; cases hh))) ?_; clear hK K)
  clear gm_f4 em_f4 gm_f5 em_f5
  (refine ord_call (by rfl) (fun K hK => ?_); go_simp; refine hK _ _ ?_; clear hK K)
  refine (copiedC_any (((((((H.out.below ((Below.refl _ _).alloc (Nat.le_refl _) _)).below hb1).below (Below.refl _ _).drew).below hb2).below hb3).below hb4).below hb5) (by omega)).mono ?_
  rintro e w6 ⟨A_a2, c_a2, rfl, o_a2, hb6⟩
  refine ⟨_, rfl, Grow.of_below hb6, ?_⟩
  (refine ord_norm (fun K hK => ?_); go_simp; refine hK _ ?_; clear hK K)
  (refine ord_call (by rfl) (fun K hK => ?_); go_simp; refine hK _ _ ?_; clear hK K)
  refine (copiedC_any ((((((((H'.out.below ((Below.refl _ _).alloc (Nat.le_refl _) _)).below hb1).below (Below.refl _ _).drew).below hb2).below hb3).below hb4).below hb5).below hb6) (by omega)).mono ?_
  rintro e w7 ⟨A_b2, c_b2, rfl, o_b2, hb7⟩
  refine ⟨_, rfl, Grow.of_below hb7, ?_⟩
  (refine ord_norm (fun K hK => ?_); go_simp; refine hK _ ?_; clear hK K)
  (refine ord_call (by rfl) (fun K hK => ?_); go_simp; refine hK _ _ ?_; clear hK K)
  refine (lcmp_any (o_a2.rd.below hb7) o_b2.rd HA.out HB.out (by omega) (by omega)).mono ?_
  rintro e w' ⟨rfl, rfl⟩
  refine ⟨_, rfl, Grow.refl _ _, ?_⟩
  (refine ord_norm (fun K hK => ?_); go_simp; refine hK _ ?_; clear hK K)
  (refine ord_call (by rfl) (fun K hK => ?_); go_simp; refine hK _ _ ?_; clear hK K)
  refine (rcmp1_any (((((((((H.out.below ((Below.refl _ _).alloc (Nat.le_refl _) _)).below hb1).below (Below.refl _ _).drew).below hb2).below hb3).below hb4).below hb5).below hb6).below hb7) (((((((((H'.out.below ((Below.refl _ _).alloc (Nat.le_refl _) _)).below hb1).below (Below.refl _ _).drew).below hb2).below hb3).below hb4).below hb5).below hb6).below hb7) HA.out HB.out (by omega) (by omega)).mono ?_
  rintro e w9 ⟨rfl, hb9⟩
  refine ⟨_, rfl, Grow.of_below hb9, ?_⟩
  (refine ord_norm (fun K hK => ?_); go_simp; refine hK _ ?_; clear hK K)
  have em_f4 := ((((((((((At.box (i := 4) _ _ rfl).below hb1).below (Below.refl _ _).drew).below hb2).below hb3).below hb4).below hb5).below hb6).below hb7).below hb9).1
  have gm_f4 := At.grow0 ((((((((((At.box (i := 4) _ _ rfl).below hb1).below (Below.refl _ _).drew).below hb2).below hb3).below hb4).below hb5).below hb6).below hb7).below hb9)
  repeat (refine ord_pas (by rfl) (fun K hK => ?_); go_simp; refine hK _ _ (fun w' hw' => (by first | (go_simp; done) | (go_simp; intro hh; cases hh))) ?_; clear hK K)
  clear gm_f4 em_f4
  (refine ord_call (by rfl) (fun K hK => ?_); go_simp; refine hK _ _ ?_; clear hK K)
  refine (copiedC_any ((((((((((H.out.below ((Below.refl _ _).alloc (Nat.le_refl _) _)).below hb1).below (Below.refl _ _).drew).below hb2).below hb3).below hb4).below hb5).below hb6).below hb7).below hb9) (by omega)).mono ?_
  rintro e w10 ⟨A_a3, c_a3, rfl, o_a3, hb10⟩
  refine ⟨_, rfl, Grow.of_below hb10, ?_⟩
  (refine ord_norm (fun K hK => ?_); go_simp; refine hK _ ?_; clear hK K)
  (refine ord_call (by rfl) (fun K hK => ?_); go_simp; refine hK _ _ ?_; clear hK K)
  refine (copiedC_any (((((((((((H.out.below ((Below.refl _ _).alloc (Nat.le_refl _) _)).below hb1).below (Below.refl _ _).drew).below hb2).below hb3).below hb4).below hb5).below hb6).below hb7).below hb9).below hb10) (by omega)).mono ?_
  rintro e w11 ⟨A_a4, c_a4, rfl, o_a4, hb11⟩
  refine ⟨_, rfl, Grow.of_below hb11, ?_⟩
  (refine ord_norm (fun K hK => ?_); go_simp; refine hK _ ?_; clear hK K)
  (refine ord_call (by rfl) (fun K hK => ?_); go_simp; refine hK _ _ ?_; clear hK K)
  have CZ := Lib.hid (lcmp_any (o_a3.rd.below hb11) o_a4.rd HA.out HA.out (by omega) (by omega))
  rw [E0.out] at CZ
  refine CZ.out.mono ?_
  rintro e w' ⟨rfl, rfl⟩
  refine ⟨_, rfl, Grow.refl _ _, ?_⟩
  (refine ord_norm (fun K hK => ?_); go_simp; refine hK _ ?_; clear hK K)
  repeat (refine ord_pas (by rfl) (fun K hK => ?_); go_simp; refine hK _ _ (fun w' hw' => (by first | (go_simp; done) | (go_simp; intro hh; cases hh))) ?_; clear hK K)
  refine ord_nil ?_
  clear g_f4 e_f4 g_f5 e_f5
  clear o_a1 o_a2 o_b2 o_a3 o_a4
  go_wp2_with fail
  have e_f4 := ((((((((((((At.box (i := 4) _ _ rfl).below hb1).below (Below.refl _ _).drew).below hb2).below hb3).below hb4).below hb5).below hb6).below hb7).below hb9).below hb10).below hb11).1
  have g_f4 := At.grow ((((((((((((At.box (i := 4) _ _ rfl).below hb1).below (Below.refl _ _).drew).below hb2).below hb3).below hb4).below hb5).below hb6).below hb7).below hb9).below hb10).below hb11)
  refine wp_region_grow none [(true, 0), (true, 1), (true, 4), (true, 5), (false, 2), (false, 3), (false, 6), (true, 7), (true, 8), (true, 9), (true, 10), (true, 13), (true, 14), (false, 11), (false, 12), (false, 15), (true, 16), (true, 17)] (by kernel_rfl) (by kernel_rfl) ?_
  repeat (refine ord_pas (by rfl) (fun K hK => ?_); go_simp; refine hK _ _ (fun w' hw' => (by first | (go_simp; done) | (go_simp; intro hh; cases hh))) ?_; clear hK K)
  (refine ord_call (by rfl) (fun K hK => ?_); go_simp; refine hK _ _ ?_; clear hK K)
  refine (copiedC_any (((((((((((((H.out.below ((Below.refl _ _).alloc (Nat.le_refl _) _)).below hb1).below (Below.refl _ _).drew).below hb2).below hb3).below hb4).below hb5).below hb6).below hb7).below hb9).below hb10).below hb11).below (Below.refl _ _).drew) (by omega)).mono ?_
  rintro e w12 ⟨A_a5, c_a5, rfl, o_a5, hb12⟩
  refine ⟨_, rfl, Grow.of_below hb12, ?_⟩
  (refine ord_norm (fun K hK => ?_); go_simp; refine hK _ ?_; clear hK K)
  (refine ord_call (by rfl) (fun K hK => ?_); go_simp; refine hK _ _ ?_; clear hK K)
  refine (lbits_nb o_a5.rd HA.out (by omega)).mono ?_
  rintro e w' ⟨rfl, rfl⟩
  refine ⟨_, rfl, Grow.refl _ _, ?_⟩
  (refine ord_norm (fun K hK => ?_); go_simp; refine hK _ ?_; clear hK K)
  (refine ord_call (by rfl) (fun K hK => ?_); go_simp; refine hK _ _ ?_; clear hK K)
  refine (rbits1_any ((((((((((((((H.out.below ((Below.refl _ _).alloc (Nat.le_refl _) _)).below hb1).below (Below.refl _ _).drew).below hb2).below hb3).below hb4).below hb5).below hb6).below hb7).below hb9).below hb10).below hb11).below (Below.refl _ _).drew).below hb12) HA.out (by omega)).mono ?_
  rintro e w14 ⟨rfl, hb14⟩
  refine ⟨_, rfl, Grow.of_below hb14, ?_⟩
  (refine ord_norm (fun K hK => ?_); go_simp; refine hK _ ?_; clear hK K)
  have em_f4 := (((((((((((((((At.box (i := 4) _ _ rfl).below hb1).below (Below.refl _ _).drew).below hb2).below hb3).below hb4).below hb5).below hb6).below hb7).below hb9).below hb10).below hb11).below (Below.refl _ _).drew).below hb12).below hb14).1
  have gm_f4 := At.grow0 (((((((((((((((At.box (i := 4) _ _ rfl).below hb1).below (Below.refl _ _).drew).below hb2).below hb3).below hb4).below hb5).below hb6).below hb7).below hb9).below hb10).below hb11).below (Below.refl _ _).drew).below hb12).below hb14)
  repeat (refine ord_pas (by rfl) (fun K hK => ?_); go_simp; refine hK _ _ (fun w' hw' => (by first | (go_simp; done) | (go_simp; intro hh; cases hh))) ?_; clear hK K)
  clear gm_f4 em_f4
  (refine ord_call (by rfl) (fun K hK => ?_); go_simp; refine hK _ _ ?_; clear hK K)
  refine (copiedC_any (((((((((((((((H.out.below ((Below.refl _ _).alloc (Nat.le_refl _) _)).below hb1).below (Below.refl _ _).drew).below hb2).below hb3).below hb4).below hb5).below hb6).below hb7).below hb9).below hb10).below hb11).below (Below.refl _ _).drew).below hb12).below hb14) (by omega)).mono ?_
  rintro e w15 ⟨A_a6, c_a6, rfl, o_a6, hb15⟩
  refine ⟨_, rfl, Grow.of_below hb15, ?_⟩
  (refine ord_norm (fun K hK => ?_); go_simp; refine hK _ ?_; clear hK K)
  (refine ord_call (by rfl) (fun K hK => ?_); go_simp; refine hK _ _ ?_; clear hK K)
  refine (lzeros_any o_a6.rd HA.out ((((((((((((((((HT.out.below ((Below.refl _ _).alloc (Nat.le_refl _) _)).below hb1).below (Below.refl _ _).drew).below hb2).below hb3).below hb4).below hb5).below hb6).below hb7).below hb9).below hb10).below hb11).below (Below.refl _ _).drew).below hb12).below hb14).below hb15) (by omega)).mono ?_
  rintro e w' ⟨rfl, rfl⟩
  refine ⟨_, rfl, Grow.refl _ _, ?_⟩
  (refine ord_norm (fun K hK => ?_); go_simp; refine hK _ ?_; clear hK K)
  (refine ord_call (by rfl) (fun K hK => ?_); go_simp; refine hK _ _ ?_; clear hK K)
  refine (rzeros1_any ((((((((((((((((H.out.below ((Below.refl _ _).alloc (Nat.le_refl _) _)).below hb1).below (Below.refl _ _).drew).below hb2).below hb3).below hb4).below hb5).below hb6).below hb7).below hb9).below hb10).below hb11).below (Below.refl _ _).drew).below hb12).below hb14).below hb15) HA.out (by omega)).mono ?_
  rintro e w17 ⟨rfl, hb17⟩
  refine ⟨_, rfl, Grow.of_below hb17, ?_⟩
  (refine ord_norm (fun K hK => ?_); go_simp; refine hK _ ?_; clear hK K)
  repeat (refine ord_pas (by rfl) (fun K hK => ?_); go_simp; refine hK _ _ (fun w' hw' => (by first | (go_simp; done) | (go_simp; intro hh; cases hh))) ?_; clear hK K)
  refine ord_nil ?_
  clear g_f4 e_f4
  clear o_a5 o_a6
  go_wp2_with fail
  have e_f4 := (((((((((((((((((At.box (i := 4) _ _ rfl).below hb1).below (Below.refl _ _).drew).below hb2).below hb3).below hb4).below hb5).below hb6).below hb7).below hb9).below hb10).below hb11).below (Below.refl _ _).drew).below hb12).below hb14).below hb15).below hb17).1
  have g_f4 := At.grow (((((((((((((((((At.box (i := 4) _ _ rfl).below hb1).below (Below.refl _ _).drew).below hb2).below hb3).below hb4).below hb5).below hb6).below hb7).below hb9).below hb10).below hb11).below (Below.refl _ _).drew).below hb12).below hb14).below hb15).below hb17)
  have e_f6 := (((((((((((((((((At.box (i := 6) _ _ rfl).below hb1).below (Below.refl _ _).drew).below hb2).below hb3).below hb4).below hb5).below hb6).below hb7).below hb9).below hb10).below hb11).below (Below.refl _ _).drew).below hb12).below hb14).below hb15).below hb17).1
  have g_f6 := At.grow (((((((((((((((((At.box (i := 6) _ _ rfl).below hb1).below (Below.refl _ _).drew).below hb2).below hb3).below hb4).below hb5).below hb6).below hb7).below hb9).below hb10).below hb11).below (Below.refl _ _).drew).below hb12).below hb14).below hb15).below hb17)
  refine wp_region_grow none [(true, 0), (true, 1), (true, 3), (true, 4), (false, 2), (false, 5), (true, 6), (true, 7), (true, 8), (true, 9), (true, 10)] (by kernel_rfl) (by kernel_rfl) ?_
  repeat (refine ord_pas (by rfl) (fun K hK => ?_); go_simp; refine hK _ _ (fun w' hw' => (by first | (go_simp; done) | (go_simp; intro hh; cases hh))) ?_; clear hK K)
  (refine ord_call (by rfl) (fun K hK => ?_); go_simp; refine hK _ _ ?_; clear hK K)
  refine (copiedC_any ((((((((((((((((((H.out.below ((Below.refl _ _).alloc (Nat.le_refl _) _)).below hb1).below (Below.refl _ _).drew).below hb2).below hb3).below hb4).below hb5).below hb6).below hb7).below hb9).below hb10).below hb11).below (Below.refl _ _).drew).below hb12).below hb14).below hb15).below hb17).below (Below.refl _ _).drew) (by omega)).mono ?_
  rintro e w18 ⟨A_a7, c_a7, rfl, o_a7, hb18⟩
  refine ⟨_, rfl, Grow.of_below hb18, ?_⟩
  (refine ord_norm (fun K hK => ?_); go_simp; refine hK _ ?_; clear hK K)
  (refine ord_call (by rfl) (fun K hK => ?_); go_simp; refine hK _ _ ?_; clear hK K)
  refine (HP2.out o_a7.rd).mono ?_
  rintro e w' ⟨rfl, rfl⟩
  refine ⟨_, rfl, Grow.refl _ _, ?_⟩
  (refine ord_norm (fun K hK => ?_); go_simp; refine hK _ ?_; clear hK K)
  repeat (refine ord_pas (by rfl) (fun K hK => ?_); go_simp; refine hK _ _ (fun w' hw' => (by first | (go_simp; done) | (go_simp; intro hh; cases hh))) ?_; clear hK K)
  refine ord_nil ?_
  clear g_f4 e_f4 g_f6 e_f6
  have e4 := (((((((((((((((((((At.box (i := 4) _ _ rfl).below hb1).below (Below.refl _ _).drew).below hb2).below hb3).below hb4).below hb5).below hb6).below hb7).below hb9).below hb10).below hb11).below (Below.refl _ _).drew).below hb12).below hb14).below hb15).below hb17).below (Below.refl _ _).drew).below hb18).1
  have e6 := (((((((((((((((((((At.box (i := 6) _ _ rfl).below hb1).below (Below.refl _ _).drew).below hb2).below hb3).below hb4).below hb5).below hb6).below hb7).below hb9).below hb10).below hb11).below (Below.refl _ _).drew).below hb12).below hb14).below hb15).below hb17).below (Below.refl _ _).drew).below hb18).1
  go_wp2_with fail
  refine (HQ2.out (((((((((((((((((((H.out.below ((Below.refl _ _).alloc (Nat.le_refl _) _)).below hb1).below (Below.refl _ _).drew).below hb2).below hb3).below hb4).below hb5).below hb6).below hb7).below hb9).below hb10).below hb11).below (Below.refl _ _).drew).below hb12).below hb14).below hb15).below hb17).below (Below.refl _ _).drew).below hb18)).mono ?_
  rintro e w20 ⟨rfl, hb20⟩
  go_wp2
  go_ret
  exact ⟨rfl, (bt (bt (bt (bt (bt (bt (bt (bt (bt (bt (bt (bt (bt (bt (bt (bt (bt (bt (bt ((Below.refl _ _).alloc (Nat.le_refl _) _) hb1) (Below.refl _ _).drew) hb2) hb3) hb4) hb5) hb6) hb7) hb9) hb10) hb11) (Below.refl _ _).drew) hb12) hb14) hb15) hb17) (Below.refl _ _).drew) hb18) hb20)⟩
end Go.Proofs.YtgiecdokjmcogaaDoor
