/-
  MulRing: the laws of products, for all numbers. Lists of numbers in memory (Nums); mul.one, Dot, Product; surdref03.Dot, Product; surdlaw03.plain. Walks: mul.bound, Pow, Low; surdref03.Pow, Low; MulExponents, MulPowers.
-/
import Derived.Test.YtajoafcondgelaaRef3C
import Derived.Test.YtajoafcondgelaaRef3D
namespace Go.Proofs.Ytajoafcondgelaa
open Go.RowKit
set_option linter.unusedVariables false

theorem awake_sq : dg W (val W [18446744073709551615] * val W [18446744073709551615]) = [1, 18446744073709551614] := by
  have e : val W [18446744073709551615] * val W [18446744073709551615] = val W [1, 18446744073709551614] := by decide
  rw [e]
  exact (norm_dg W_gt (xs := [1, 18446744073709551614]) (by simp [All, W_eq]) (by simp [Norm, strip])).symm

set_option maxHeartbeats 400000 in
theorem awake3_any (w : World) : Calls Try.prog 4 #[] w (Keeps (.bool true) w) := by
  have HQ := Lib.hid awake_sq
  go_enter Try.func4, Try.ntmps4
  go_wp2_with fail
  refine (mul_any (((Num.lit (t := 30) _ [18446744073709551615] (by simp) (by simp [W_eq, All])).mono (L' := 1) (by simp)).below ((Below.refl _ _).alloc (Nat.le_refl _) _)) ((Num.lit (t := 30) _ [18446744073709551615] (by simp) (by simp [W_eq, All])).mono (L' := 1) (by simp)) (by decide) (by decide)).mono ?_
  rintro e w1 ⟨A_p, n_p, c_p, rfl, o_p, hb1, l_p⟩
  go_wp2_with fail
  rw [HQ.out] at o_p
  refine (same3_yes (o_p.rd.alloc _) (Rd.litn (k := .u64) (t := 30) _ [1, 18446744073709551614] rfl (by decide)) rfl (by simp at l_p; omega)).mono ?_
  rintro e w2 ⟨rfl, hb2⟩
  go_wp2
  go_ret
  exact ⟨rfl, (bt (bt (bt (bt ((Below.refl _ _).alloc (Nat.le_refl _) _) ((Below.refl _ _).alloc (Nat.le_refl _) _)) hb1) ((Below.refl _ _).alloc (Nat.le_refl _) _)) hb2)⟩

end Go.Proofs.Ytajoafcondgelaa
namespace Go.Proofs.Ytajoafcondgelaa
open Go.RowKit
set_option linter.unusedVariables false

def lsum : List Nat → Nat
  | [] => 0
  | x :: xs => x + lsum xs
def lprod : List Nat → Nat
  | [] => 1
  | x :: xs => x * lprod xs
/-- the sum of the products, place by place -/
def ldot : List Nat → List Nat → Nat
  | x :: xs, y :: ys => x * y + ldot xs ys
  | _, _ => 0
theorem lsum_append (xs ys : List Nat) : lsum (xs ++ ys) = lsum xs + lsum ys := by
  induction xs with
  | nil => simp [lsum]
  | cons x xs ih => simp [lsum, ih]; omega
theorem lprod_append (xs ys : List Nat) : lprod (xs ++ ys) = lprod xs * lprod ys := by
  induction xs with
  | nil => simp [lprod]
  | cons x xs ih => simp [lprod, ih, Nat.mul_assoc]
theorem lsum_cut (xs : List Nat) (k : Nat) : lsum xs = lsum (xs.take k) + lsum (xs.drop k) := by
  rw [← lsum_append, List.take_append_drop]
theorem lprod_cut (xs : List Nat) (k : Nat) : lprod xs = lprod (xs.take k) * lprod (xs.drop k) := by
  rw [← lprod_append, List.take_append_drop]
theorem lsum_take_succ {xs : List Nat} {k : Nat} (h : k < xs.length) : lsum (xs.take (k + 1)) = lsum (xs.take k) + nth xs k := by
  rw [List.take_succ_eq_append_getElem h, lsum_append, nth_lt h]; simp [lsum]
theorem lprod_take_succ {xs : List Nat} {k : Nat} (h : k < xs.length) : lprod (xs.take (k + 1)) = lprod (xs.take k) * nth xs k := by
  rw [List.take_succ_eq_append_getElem h, lprod_append, nth_lt h]; simp [lprod]
theorem lsum_take_le (xs : List Nat) (k : Nat) : lsum (xs.take k) ≤ lsum xs := by rw [lsum_cut xs k]; omega
theorem nth_le_lsum (xs : List Nat) (k : Nat) : nth xs k ≤ lsum xs := by
  by_cases h : k < xs.length
  · have := lsum_take_le xs (k + 1)
    rw [lsum_take_succ h] at this
    omega
  · rw [nth_ge (by omega)]; omega
theorem ldot_take_succ : ∀ (xs ys : List Nat) (k : Nat), ldot (xs.take (k + 1)) (ys.take (k + 1)) = ldot (xs.take k) (ys.take k) + nth xs k * nth ys k
  | [], ys, k => by simp [ldot, nth]
  | x :: xs, [], k => by cases k <;> simp [ldot, nth]
  | x :: xs, y :: ys, 0 => by simp [ldot, nth]
  | x :: xs, y :: ys, k + 1 => by
    have := ldot_take_succ xs ys k
    simp only [List.take_succ_cons, ldot, nth, List.getElem?_cons_succ] at this ⊢
    omega

/-- the slice's cells are slices: the numbers xs, of at most ls words -/
def Nums (w : World) (A : Option Addr) (n c : Nat) (xs ls : List Nat) : Prop :=
  (xs.length = n ∧ ls.length = n ∧ n ≤ c) ∧ (0 < n → ∃ b off, A = some ⟨b, off, none⟩ ∧ b < w.heap.size ∧ ∀ i, i < n → ∃ v, w.cell? ⟨b, off + i, none⟩ = some v ∧ Num w v (nth xs i) (nth ls i))
section
variable {w w' : World} {A : Option Addr} {n c : Nat} {xs ls : List Nat}
theorem Nums.at {i : Nat} (h : Nums w A n c xs ls) (hi : i < n) : ∃ b off v, A = some ⟨b, off, none⟩ ∧ b < w.heap.size ∧ w.cell? ⟨b, off + i, none⟩ = some v ∧ Num w v (nth xs i) (nth ls i) := by
  obtain ⟨b, off, e, hb, hc⟩ := h.2 (by omega)
  obtain ⟨v, h1, h2⟩ := hc i hi
  exact ⟨b, off, v, e, hb, h1, h2⟩
theorem Nums.below (h : Nums w A n c xs ls) (hb : Below w.heap.size w w') : Nums w' A n c xs ls :=
  ⟨h.1, fun hn => by
    obtain ⟨b, off, e, hlt, hc⟩ := h.2 hn
    refine ⟨b, off, e, Nat.lt_of_lt_of_le hlt hb.size, fun i hi => ?_⟩
    obtain ⟨v, h1, h2⟩ := hc i hi
    exact ⟨v, (hb.cell (p := ⟨b, off + i, none⟩) hlt).trans h1, h2.below hb⟩⟩
theorem Nums.drew (h : Nums w A n c xs ls) : Nums w.drew A n c xs ls := h
theorem nth_take {xs : List Nat} {i j : Nat} (h : i < j) : nth (xs.take j) i = nth xs i := by rw [nth, nth, List.getElem?_take, if_pos h]
theorem nth_drop {xs : List Nat} {i j : Nat} : nth (xs.drop j) i = nth xs (j + i) := by rw [nth, nth, List.getElem?_drop]
theorem Nums.upto {j : Nat} (h : Nums w A n c xs ls) (hj : j ≤ n) : Nums w A j c (xs.take j) (ls.take j) := by
  obtain ⟨⟨h1, h2, h3⟩, h4⟩ := h
  refine ⟨⟨by simp [h1]; omega, by simp [h2]; omega, by omega⟩, fun hn => ?_⟩
  obtain ⟨b, off, e, hlt, hc⟩ := h4 (by omega)
  refine ⟨b, off, e, hlt, fun i hi => ?_⟩
  rw [nth_take hi, nth_take hi]
  exact hc i (by omega)
theorem Nums.from_ {j : Nat} (h : Nums w A n c xs ls) (hj : j ≤ n) : Nums w (if c = j then A else A.map (·.add j)) (n - j) (c - j) (xs.drop j) (ls.drop j) := by
  obtain ⟨⟨h1, h2, h3⟩, h4⟩ := h
  refine ⟨⟨by simp [h1], by simp [h2], by omega⟩, fun hn => ?_⟩
  obtain ⟨b, off, e, hlt, hc⟩ := h4 (by omega)
  subst e
  rw [if_neg (by omega)]
  refine ⟨b, off + j, by simp [addo], hlt, fun i hi => ?_⟩
  rw [nth_drop, nth_drop, Nat.add_assoc]
  exact hc (j + i) (by omega)
end

set_option maxHeartbeats 400000 in
theorem one_any (w : World) : Calls Try.prog 29 #[] w (GN w 1 1) := by
  go_enter Try.func29, Try.ntmps29
  go_wp2
  go_ret
  refine ⟨some ⟨w.heap.size, 0, none⟩, 1, 1, rfl, ?_, (Below.refl _ _).alloc (Nat.le_refl _) _, Nat.le_refl _⟩
  have e : dg W 1 = [1] := (norm_dg (xs := [1]) W_gt (by simp [All, W_eq]) (by simp [Norm, strip])).symm
  rw [e]
  exact Own.lit (k := .u64) (t := 30) w [1] (by simp [maxLen]) (Nat.le_refl _)

def ProductSaid (N : Nat) : Prop := ∀ (w : World) (A : Option Addr) (n c : Nat) (xs ls : List Nat), 1 ≤ n → n ≤ N → Nums w A n c xs ls → lsum ls ≤ 68719476736 → Calls Try.prog 24 #[.slice A n c] w (GN w (lprod xs) (lsum ls))
set_option maxHeartbeats 1000000 in
theorem product_all (N : Nat) (hN : N ≤ 1099511627776) : ProductSaid N := by
  induction N using Nat.strongRecOn with
  | _ N ih0 =>
    intro w A n c xs ls h1 hn h hl
    have H := Lib.hid h
    clear h
    by_cases h11 : n = 1
    · subst h11
      obtain ⟨b, off, v, rfl, hb, hc, hv⟩ := H.out.at (i := 0) (by omega)
      rw [Nat.add_zero] at hc
      have hx : lprod xs = nth xs 0 := by
        obtain ⟨⟨e, _, _⟩, _⟩ := H.out
        match xs, e with
        | [x], _ => simp [lprod, nth]
      have hs : lsum ls = nth ls 0 := by
        obtain ⟨⟨_, e, _⟩, _⟩ := H.out
        match ls, e with
        | [x], _ => simp [lsum, nth]
      have HX := Lib.hid hx
      have HS := Lib.hid hs
      have HV := Lib.hid hv
      have HL := Lib.hid hl
      clear hx hs hv hl
      go_enter Try.func24, Try.ntmps24
      go_wp2_with fail
      refine (nnorm_any HV.out (by have := HL.out; rw [HS.out] at this; omega)).mono ?_
      rintro e w1 ⟨A1, n1, c1, rfl, ho1, hb1, hl1⟩
      go_wp2
      go_ret
      exact ⟨_, _, _, rfl, by rw [HX.out]; exact ho1, hb1, by rw [HS.out]; exact hl1⟩
    · obtain ⟨k, hk⟩ : ∃ k : Nat, k = n / 2 := ⟨_, rfl⟩
      have HK : Hid ((n : Int) / 2 = (k : Int)) := by show _ = _; omega
      have hk1 : 1 ≤ k := by omega
      have hk2 : k < n := by omega
      have IH : Hid (ProductSaid (N - 1)) := ih0 (N - 1) (by omega) (by omega)
      have q1 : ((n : Int) == 0) = false := by rw [beq_eq_false_iff_ne]; omega
      have q2 : ((n : Int) == 1) = false := by rw [beq_eq_false_iff_ne]; omega
      have hc := H.out.1.2.2
      have R1 := Lib.hid (H.out.upto (j := k) (by omega))
      have R2 := Lib.hid (H.out.from_ (j := k) (by omega))
      have LS := Lib.hid (lsum_cut ls k)
      have LP := Lib.hid (lprod_cut xs k)
      have b1 : lsum (ls.take k) ≤ 68719476736 := by have := LS.out; omega
      have b2 : lsum (ls.drop k) ≤ 68719476736 := by have := LS.out; omega
      clear hk ih0 h11
      have i1 : (0 : Int) ≤ (k : Int) := by omega
      have i2 : (k : Int) ≤ (n : Int) := by omega
      have i3 : (k : Int) ≤ (c : Int) := by omega
      go_enter Try.func24, Try.ntmps24
      go_wp2_with fail
      rw [HK.out]
      refine wp_region_grow none [(true, 0), (true, 1), (true, 2), (true, 4), (true, 5), (true, 6), (false, 3), (false, 7), (false, 8), (true, 9)] (by kernel_rfl) (by kernel_rfl) ?_
      repeat (refine ord_pas (by rfl) (fun K hK => ?_); go_simp; refine hK _ _ (fun w' hw' => (by first | (go_simp; done) | (go_simp; intro hh; cases hh))) ?_; clear hK K)
      (refine ord_call (by rfl) (fun K hK => ?_); go_simp; refine hK _ _ ?_; clear hK K)
      generalize (if c = k then A else Option.map (fun x => x.add k) A) = A0 at R2 ⊢
      refine (IH.out _ _ _ _ _ _ hk1 (by omega) R1.out.drew b1).mono ?_
      rintro e w1 ⟨A1, n1, c1, rfl, ho1, hb1, hl1⟩
      refine ⟨_, rfl, Grow.of_below hb1, ?_⟩
      (refine ord_norm (fun K hK => ?_); go_simp; refine hK _ ?_; clear hK K)
      (refine ord_call (by rfl) (fun K hK => ?_); go_simp; refine hK _ _ ?_; clear hK K)
      refine (IH.out _ _ _ _ _ _ (by omega) (by omega) (R2.out.drew.below hb1) b2).mono ?_
      rintro e w2 ⟨A2, n2, c2, rfl, ho2, hb2, hl2⟩
      refine ⟨_, rfl, Grow.of_below hb2, ?_⟩
      (refine ord_norm (fun K hK => ?_); go_simp; refine hK _ ?_; clear hK K)
      (refine ord_call (by rfl) (fun K hK => ?_); go_simp; refine hK _ _ ?_; clear hK K)
      refine (mul_any ((ho1.num hl1).below hb2) (ho2.num hl2) (by omega) (by omega)).mono ?_
      rintro e w3 ⟨A3, n3, c3, rfl, ho3, hb3, hl3⟩
      refine ⟨_, rfl, Grow.of_below hb3, ?_⟩
      (refine ord_norm (fun K hK => ?_); go_simp; refine hK _ ?_; clear hK K)
      repeat (refine ord_pas (by rfl) (fun K hK => ?_); go_simp; refine hK _ _ (fun w' hw' => (by first | (go_simp; done) | (go_simp; intro hh; cases hh))) ?_; clear hK K)
      refine ord_nil ?_
      go_wp2
      go_ret
      refine ⟨_, _, _, rfl, ?_, bt (bt (bd hb1) hb2) hb3, by rw [LS.out]; exact hl3⟩
      rw [LP.out]
      exact ho3.mono (bt (bd hb1) hb2).size

set_option maxHeartbeats 1000000 in
theorem dot_any {A A2 : Option Addr} {n c c2 : Nat} {xs ys ls ms : List Nat} {w : World} (h : Nums w A n c xs ls) (h' : Nums w A2 n c2 ys ms) (hn : n ≤ 4194304) (hl : lsum ls ≤ 4194304) (hm : lsum ms ≤ 4194304) :
    Calls Try.prog 25 #[.slice A n c, .slice A2 n c2] w (GNE w (ldot xs ys) (lsum ls + lsum ms + n) 0) := by
  have H := Lib.hid h
  have H' := Lib.hid h'
  clear h h'
  have q1 : ((n : Int) != (n : Int)) = false := by simp
  go_enter Try.func25, Try.ntmps25
  go_wp2
  go_loopw [6, 16] (fun sv i wr => ∃ (k : Nat) (B : Option Addr) (q e : Nat), Hid (Own .u64 30 w.heap.size wr B q e (dg W (ldot (xs.take k) (ys.take k))) ∧ Below w.heap.size w wr) ∧ k ≤ n ∧ q ≤ lsum ls + lsum ms + k ∧ sv = .slice B q e ∧ i = .int .i64 k) (fun _ i _ => n - (intOf i).toNat)
  case atStart => exact ⟨0, none, 0, 0, ⟨by simpa [ldot] using Own.nilx (dg_zero W_gt), Below.refl _ _⟩, Nat.zero_le _, Nat.zero_le _, rfl, rfl⟩
  case round =>
    obtain ⟨k, B, q, e, hI, hk, hq, rfl, rfl⟩ := hrel
    by_cases hlt : k < n
    · obtain ⟨b, off, v, ea, hb, hca, hv⟩ := (H.out.below hI.out.2).at hlt
      obtain ⟨b2, off2, v2, ea2, hb2, hcb, hv2⟩ := (H'.out.below hI.out.2).at hlt
      subst ea ea2
      have HV := Lib.hid hv
      have HV2 := Lib.hid hv2
      have HT := Lib.hid (ldot_take_succ xs ys k)
      have hl1 : nth ls k ≤ lsum ls := nth_le_lsum ls k
      have hl2 : nth ms k ≤ lsum ms := nth_le_lsum ms k
      obtain ⟨a1, a2, a3, _, rfl, _⟩ := id hv
      obtain ⟨c1, c2, c3, _, rfl, _⟩ := id hv2
      clear hv hv2
      (go_wp2_with fail; refine (mulAdd_any HV.out HV2.out (hI.out.1.num hq) (by omega) (by omega) (by omega)).mono ?_; rintro e w1 ⟨B1, n1, e1, rfl, ho1, hb1, hn1⟩; go_wp2)
      go_roundw
      case rel =>
        refine ⟨k + 1, B1, _, e1, ⟨?_, bt hI.out.2 hb1⟩, by omega, by omega, rfl, by go_num⟩
        rw [HT.out, Nat.add_comm]
        exact ho1.mono hI.out.2.size
      case measure => simp [intOf]; omega
    · obtain rfl : k = n := by omega
      go_wp2
      go_ret2
      have ho := hI.out.1
      rw [List.take_of_length_le (by rw [H.out.1.1]; exact Nat.le_refl _), List.take_of_length_le (by rw [H'.out.1.1]; exact Nat.le_refl _)] at ho
      exact ⟨_, _, _, rfl, ho, hI.out.2, hq⟩
set_option maxHeartbeats 1000000 in
theorem dot3_any {A A2 : Option Addr} {n c c2 : Nat} {xs ys ls ms : List Nat} {w : World} (h : Nums w A n c xs ls) (h' : Nums w A2 n c2 ys ms) (hn : n ≤ 4194304) (hl : lsum ls ≤ 4194304) (hm : lsum ms ≤ 4194304) :
    Calls Try.prog 18 #[.slice A n c, .slice A2 n c2] w (GNE w (ldot xs ys) (lsum ls + lsum ms + n) 0) := by
  have H := Lib.hid h
  have H' := Lib.hid h'
  clear h h'
  have q1 : ((n : Int) != (n : Int)) = false := by simp
  go_enter Try.func18, Try.ntmps18
  go_wp2
  go_loopw [6, 7] (fun sv i wr => ∃ (k : Nat) (B : Option Addr) (q e : Nat), Hid (Own .u64 30 w.heap.size wr B q e (dg W (ldot (xs.take k) (ys.take k))) ∧ Below w.heap.size w wr) ∧ k ≤ n ∧ q ≤ lsum ls + lsum ms + k ∧ sv = .slice B q e ∧ i = .int .i64 k) (fun _ i _ => n - (intOf i).toNat)
  case atStart => exact ⟨0, none, 0, 0, ⟨by simpa [ldot] using Own.nilx (dg_zero W_gt), Below.refl _ _⟩, Nat.zero_le _, Nat.zero_le _, rfl, rfl⟩
  case round =>
    obtain ⟨k, B, q, e, hI, hk, hq, rfl, rfl⟩ := hrel
    by_cases hlt : k < n
    · obtain ⟨b, off, v, ea, hb, hca, hv⟩ := (H.out.below hI.out.2).at hlt
      obtain ⟨b2, off2, v2, ea2, hb2, hcb, hv2⟩ := (H'.out.below hI.out.2).at hlt
      subst ea ea2
      have HV := Lib.hid hv
      have HV2 := Lib.hid hv2
      have HT := Lib.hid (ldot_take_succ xs ys k)
      have hl1 : nth ls k ≤ lsum ls := nth_le_lsum ls k
      have hl2 : nth ms k ≤ lsum ms := nth_le_lsum ms k
      obtain ⟨a1, a2, a3, _, rfl, _⟩ := id hv
      obtain ⟨c1, c2, c3, _, rfl, _⟩ := id hv2
      clear hv hv2
      have i1 : (0 : Int) ≤ (k : Int) := by omega
      have i2 : (k : Int) < (n : Int) := by omega
      have hca' : ∀ w', Grow none wr.drew w' → w'.cell? ⟨b, off + k, none⟩ = some (.slice a1 a2 a3) := fun w' h => h.cell hca (by simp)
      have hcb' : ∀ w', Grow none wr.drew w' → w'.cell? ⟨b2, off2 + k, none⟩ = some (.slice c1 c2 c3) := fun w' h => h.cell hcb (by simp)
      go_wp2
      refine wp_region_grow none [(true, 0), (true, 1), (true, 2), (true, 3), (true, 4), (true, 5), (true, 6), (true, 7), (true, 8), (false, 9), (true, 10)] (by kernel_rfl) (by kernel_rfl) ?_
      repeat (refine ord_pas (by rfl) (fun K hK => ?_); go_simp; refine hK _ _ (fun w' hw' => (by first | (go_simp; done) | (go_simp; intro hh; cases hh))) ?_; clear hK K)
      (refine ord_call (by rfl) (fun K hK => ?_); go_simp; refine hK _ _ ?_; clear hK K)
      refine (mulAdd3_any HV.out.drew HV2.out.drew (hI.out.1.drew.num hq) (by omega) (by omega) (by omega)).mono ?_
      rintro e w1 ⟨B1, n1, e1, rfl, ho1, hb1, hn1⟩
      clear hca' hcb'
      refine ⟨_, rfl, Grow.of_below hb1, ?_⟩
      (refine ord_norm (fun K hK => ?_); go_simp; refine hK _ ?_; clear hK K)
      repeat (refine ord_pas (by rfl) (fun K hK => ?_); go_simp; refine hK _ _ (fun w' hw' => (by first | (go_simp; done) | (go_simp; intro hh; cases hh))) ?_; clear hK K)
      refine ord_nil ?_
      go_wp2
      go_roundw
      case rel =>
        refine ⟨k + 1, B1, _, e1, ⟨?_, bt hI.out.2 (bd hb1)⟩, by omega, by omega, rfl, by go_num⟩
        rw [HT.out, Nat.add_comm]
        exact ho1.mono hI.out.2.size
      case measure => simp [intOf]; omega
    · obtain rfl : k = n := by omega
      go_wp2
      go_ret2
      have ho := hI.out.1
      rw [List.take_of_length_le (by rw [H.out.1.1]; exact Nat.le_refl _), List.take_of_length_le (by rw [H'.out.1.1]; exact Nat.le_refl _)] at ho
      exact ⟨_, _, _, rfl, ho, hI.out.2, hq⟩

def plainB (z1 z2 : Int) : Bool := decide (z1 = z2)
set_option maxHeartbeats 400000 in
theorem dot_ne {A A2 : Option Addr} {n m c c2 : Nat} {w : World} (hne : n ≠ m) : Calls Try.prog 25 #[.slice A n c, .slice A2 m c2] w (GNE w 0 0 3) := by
  have q1 : ((n : Int) != (m : Int)) = true := by simp; omega
  clear hne
  go_enter Try.func25, Try.ntmps25
  go_wp2
  go_ret2
  exact ⟨none, 0, 0, rfl, Own.nilx (dg_zero W_gt), Below.refl _ _, Nat.le_refl _⟩
set_option maxHeartbeats 400000 in
theorem dot3_ne {A A2 : Option Addr} {n m c c2 : Nat} {w : World} (hne : n ≠ m) : Calls Try.prog 18 #[.slice A n c, .slice A2 m c2] w (GNE w 0 0 3) := by
  have q1 : ((n : Int) != (m : Int)) = true := by simp; omega
  clear hne
  go_enter Try.func18, Try.ntmps18
  go_wp2
  go_ret2
  exact ⟨none, 0, 0, rfl, Own.nilx (dg_zero W_gt), Below.refl _ _, Nat.le_refl _⟩

set_option maxHeartbeats 400000 in
theorem product_zero {A : Option Addr} {c : Nat} {w : World} : Calls Try.prog 24 #[.slice A 0 c] w (GN w 1 1) := by
  go_enter Try.func24, Try.ntmps24
  go_wp2_with fail
  refine (one_any _).mono ?_
  rintro e w1 ⟨A1, n1, c1, rfl, ho1, hb1, hl1⟩
  go_wp2
  go_ret
  exact ⟨_, _, _, rfl, ho1, hb1, hl1⟩
theorem productL_any {A : Option Addr} {n c : Nat} {xs ls : List Nat} {w : World} (h : Nums w A n c xs ls) (hn : n ≤ 4194304) (hl : lsum ls ≤ 4194304) :
    Calls Try.prog 24 #[.slice A n c] w (GN w (lprod xs) (lsum ls + 1)) := by
  by_cases h0 : n = 0
  · subst h0
    have e : xs = [] := List.eq_nil_of_length_eq_zero h.1.1
    subst e
    exact product_zero.mono fun _ _ ⟨A1, n1, c1, he, ho1, hb1, hl1⟩ => ⟨A1, n1, c1, he, ho1, hb1, by omega⟩
  · exact (product_all n (by omega) w A n c xs ls (by omega) (Nat.le_refl _) h (by omega)).mono fun _ _ ⟨A1, n1, c1, he, ho1, hb1, hl1⟩ => ⟨A1, n1, c1, he, ho1, hb1, by omega⟩

end Go.Proofs.Ytajoafcondgelaa
namespace Go.Proofs.Ytajoafcondgelaa
open Go.RowKit
set_option linter.unusedVariables false

theorem bound_ok {z m : Int} {w : World} (h0 : 0 ≤ z) (h1 : z ≤ m) : Calls Try.prog 28 #[.int .i64 z, .int .i64 m] w (Keeps (.int .i64 0) w) := by
  have h2 : ¬ z < 0 := by omega
  have h3 : ¬ m < z := by omega
  go_enter Try.func28, Try.ntmps28
  go_wp2
  go_ret
  exact ⟨rfl, Below.refl _ _⟩
theorem bound_neg {z m : Int} {w : World} (h0 : z < 0) : Calls Try.prog 28 #[.int .i64 z, .int .i64 m] w (Keeps (.int .i64 3) w) := by
  go_enter Try.func28, Try.ntmps28
  go_wp2
  go_ret
  exact ⟨rfl, Below.refl _ _⟩
theorem bound_big {z m : Int} {w : World} (h0 : 0 ≤ z) (h1 : m < z) : Calls Try.prog 28 #[.int .i64 z, .int .i64 m] w (Keeps (.int .i64 13) w) := by
  have h2 : ¬ z < 0 := by omega
  go_enter Try.func28, Try.ntmps28
  go_wp2
  go_ret
  exact ⟨rfl, Below.refl _ _⟩

theorem pow_lt {x L : Nat} (h : x < W ^ L) (a : Nat) : x ^ a < W ^ (L * a + 1) := by
  have h1 : x ^ a ≤ (W ^ L) ^ a := Nat.pow_le_pow_left (Nat.le_of_lt h) a
  rw [← Nat.pow_mul] at h1
  exact Nat.lt_of_le_of_lt h1 (Nat.pow_lt_pow_right W_gt (by omega))
/-- what is left of the exponent -/
def PowI (N m a b : Nat) : Prop := a + b * m = N ∧ (m = 0 ∨ b ≤ N) ∧ a ≤ N
theorem PowI.start (N : Nat) : PowI N N 0 1 := ⟨by omega, by omega, by omega⟩
theorem PowI.odd1 {N m a b : Nat} (h : PowI N m a b) (h1 : m % 2 = 1) : PowI N (m / 2) (a + b) (b + b) ∨ m = 1 := by
  obtain ⟨h2, h3, h4⟩ := h
  by_cases hm : m = 1
  · exact .inr hm
  · left
    obtain ⟨k, rfl⟩ : ∃ k, m = 2 * k + 1 := ⟨m / 2, by omega⟩
    have hk : 1 ≤ k := by omega
    have e : (2 * k + 1) / 2 = k := by omega
    have e2 : b * (2 * k + 1) = b * k + b * k + b := by rw [Nat.mul_add, Nat.mul_comm 2 k, ← Nat.mul_assoc]; omega
    have e3 : b * 1 ≤ b * k := Nat.mul_le_mul_left b hk
    rw [e]
    refine ⟨by rw [Nat.add_mul]; omega, by omega, by omega⟩
theorem PowI.last {N a b : Nat} (h : PowI N 1 a b) : PowI N 0 (a + b) b := by
  obtain ⟨h2, h3, h4⟩ := h
  exact ⟨by omega, by omega, by omega⟩
theorem PowI.even {N m a b : Nat} (h : PowI N m a b) (h1 : m % 2 = 0) (h0 : 0 < m) : PowI N (m / 2) a (b + b) := by
  obtain ⟨h2, h3, h4⟩ := h
  obtain ⟨k, rfl⟩ : ∃ k, m = 2 * k := ⟨m / 2, by omega⟩
  have hk : 1 ≤ k := by omega
  have e : 2 * k / 2 = k := by omega
  have e2 : b * (2 * k) = b * k + b * k := by rw [Nat.mul_comm 2 k, ← Nat.mul_assoc]; omega
  have e3 : b * 1 ≤ b * k := Nat.mul_le_mul_left b hk
  rw [e]
  exact ⟨by rw [Nat.add_mul]; omega, by omega, by omega⟩
theorem pow_len {x L N a : Nat} {xs : List Nat} (h : x < W ^ L) (ha : a ≤ N) (e : xs = dg W (x ^ a)) : xs.length ≤ L * N + 1 := by
  subst e
  have := dgl (pow_lt h a)
  have h2 : L * a ≤ L * N := Nat.mul_le_mul_left L ha
  omega

set_option maxHeartbeats 2000000 in
theorem pow_any {v : Value} {x L N : Nat} {n' : Int} {w : World} (h : Num w v x L) (hn' : n' = (N : Int)) (hN : N ≤ 10000) (hL : L ≤ 68719476736) (hLN : L * N ≤ 34359738368) :
    Calls Try.prog 26 #[v, .int .i64 n'] w (GNE w (x ^ N) (L * N + 1) 0) := by
  subst hn'
  have H := Lib.hid h
  have HX := Lib.hid h.lt
  have HLN := Lib.hid hLN
  clear h hLN
  go_enter Try.func26, Try.ntmps26
  go_wp2_with fail
  refine (bound_ok (by omega) (by omega)).mono ?_
  rintro e w1 ⟨rfl, hb1⟩
  go_wp2_with fail
  refine (one_any _).mono ?_
  rintro e w2 ⟨A_o, n_o, c_o, rfl, o_o, hb2, l_o⟩
  go_wp2_with fail
  refine (nnorm_any ((H.out.below hb1).below hb2) (by omega)).mono ?_
  rintro e w3 ⟨A_b, n_b, c_b, rfl, o_b, hb3, l_b⟩
  go_wp2
  have HO : Hid (PowI N N 0 1 ∧ Own .u64 30 w.heap.size w3 A_o n_o c_o (dg W (x ^ 0)) ∧ Own .u64 30 w.heap.size w3 A_b n_b c_b (dg W (x ^ 1)) ∧ Below w.heap.size w w3) := by
    exact ⟨PowI.start N, by rw [Nat.pow_zero]; exact ((o_o.mono hb1.size).below hb3), by rw [Nat.pow_one]; exact (o_b.mono (bt hb1 hb2).size), (bt (bt hb1 hb2) hb3)⟩
  clear o_o o_b hb1 hb2 hb3 l_o l_b
  go_loopw [1, 7, 8] (fun nv ov bv wr => ∃ (m a b : Nat) (A1 : Option Addr) (n1 c1 : Nat) (A2 : Option Addr) (n2 c2 : Nat), Hid (PowI N m a b ∧ Own .u64 30 w.heap.size wr A1 n1 c1 (dg W (x ^ a)) ∧ Own .u64 30 w.heap.size wr A2 n2 c2 (dg W (x ^ b)) ∧ Below w.heap.size w wr) ∧ m ≤ N ∧ nv = .int .i64 m ∧ ov = .slice A1 n1 c1 ∧ bv = .slice A2 n2 c2) (fun nv _ _ _ => (intOf nv).toNat)
  case atStart => exact ⟨N, 0, 1, _, _, _, _, _, _, HO, Nat.le_refl _, rfl, rfl, rfl⟩
  case round =>
    obtain ⟨m, a, b, A1, n1, c1, A2, n2, c2, hI, hm, rfl, rfl, rfl⟩ := hrel
    have la : Hid (n1 ≤ L * N + 1) := by
      show _ ≤ _
      rw [← hI.out.2.1.len]; exact pow_len HX.out hI.out.1.2.2 rfl
    by_cases h0 : 0 < m
    · have lb : Hid (n2 ≤ L * N + 1) := by
        show _ ≤ _
        rw [← hI.out.2.2.1.len]; exact pow_len HX.out (by have := hI.out.1.2.1; omega) rfl
      by_cases h1 : m % 2 = 1
      · have q1 : ((m : Int) % 2 == 1) = true := by rw [beq_iff_eq]; omega
        have H1 := Lib.hid h1
        clear h1
        by_cases hm1 : m = 1
        · subst hm1
          go_wp2_with fail
          refine (mul_any (hI.out.2.1.num la.out) (hI.out.2.2.1.num lb.out) (by have := HLN.out; omega) (by have := HLN.out; omega)).mono ?_
          rintro e w4 ⟨A3, n3, c3, rfl, ho3, hb3, hl3⟩
          go_wp2
          go_roundw
          case rel =>
            refine ⟨0, a + b, b, _, _, _, _, _, _, ⟨hI.out.1.last, ?_, hI.out.2.2.1.below hb3, bt hI.out.2.2.2 hb3⟩, by omega, rfl, rfl, rfl⟩
            rw [Nat.pow_add]
            exact ho3.mono hI.out.2.2.2.size
          case measure => simp [intOf]
        · have hm2 : 1 < m := by omega
          clear hm1
          go_wp2_with fail
          refine (mul_any (hI.out.2.1.num la.out) (hI.out.2.2.1.num lb.out) (by have := HLN.out; omega) (by have := HLN.out; omega)).mono ?_
          rintro e w4 ⟨A3, n3, c3, rfl, ho3, hb3, hl3⟩
          go_wp2_with fail
          refine (square_any ((hI.out.2.2.1.num lb.out).below hb3) (by have := HLN.out; omega)).mono ?_
          rintro e w5 ⟨A4, n4, c4, rfl, ho4, hb4, hl4⟩
          go_wp2
          go_roundw
          case rel =>
            have hp := hI.out.1.odd1 H1.out
            refine ⟨m / 2, a + b, b + b, _, _, _, _, _, _, ⟨hp.resolve_right (by omega), ?_, ?_, bt (bt hI.out.2.2.2 hb3) hb4⟩, by omega, by go_num, rfl, rfl⟩
            · rw [Nat.pow_add]
              exact (ho3.mono hI.out.2.2.2.size).below hb4
            · rw [Nat.pow_add]
              exact ho4.mono (bt hI.out.2.2.2 hb3).size
          case measure => simp [intOf]; omega
      · have q1 : ((m : Int) % 2 == 1) = false := by rw [beq_eq_false_iff_ne]; omega
        have H1 : Hid (m % 2 = 0) := by show _ = _; omega
        have hm2 : 1 < m := by omega
        clear h1
        go_wp2_with fail
        refine (square_any (hI.out.2.2.1.num lb.out) (by have := HLN.out; omega)).mono ?_
        rintro e w5 ⟨A4, n4, c4, rfl, ho4, hb4, hl4⟩
        go_wp2
        go_roundw
        case rel =>
          refine ⟨m / 2, a, b + b, _, _, _, _, _, _, ⟨hI.out.1.even H1.out h0, hI.out.2.1.below hb4, ?_, bt hI.out.2.2.2 hb4⟩, by omega, by go_num, rfl, rfl⟩
          rw [Nat.pow_add]
          exact ho4.mono hI.out.2.2.2.size
        case measure => simp [intOf]; omega
    · obtain rfl : m = 0 := by omega
      go_wp2
      go_ret2
      have ha : a = N := by have := hI.out.1.1; omega
      refine ⟨_, _, _, rfl, ?_, hI.out.2.2.2, la.out⟩
      rw [← ha]
      exact hI.out.2.1
end Go.Proofs.Ytajoafcondgelaa
