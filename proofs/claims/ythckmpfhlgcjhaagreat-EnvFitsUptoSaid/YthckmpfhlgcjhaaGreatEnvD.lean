/-
  slices.BinarySearchFunc at bindings; env.find.
-/
import Derived.Test.YthckmpfhlgcjhaaGreatEnvC
namespace Go.Proofs.YthckmpfhlgcjhaaGreat
open Go.RowKit
set_option linter.unusedVariables false

/-- a list of bindings: the names -/
def NamL (w : World) (A : Option Addr) (n c : Nat) (ns : List ByteArray) : Prop := ∃ hs : List Hb, RdK 2 w A n c (hs.flatMap hbv) ∧ hs.map (·.1) = ns
theorem NamL.below {w w' : World} {A : Option Addr} {n c : Nat} {ns : List ByteArray} (h : NamL w A n c ns) (hb : Below w.heap.size w w') : NamL w' A n c ns := by
  obtain ⟨hs, h1, h2⟩ := h
  exact ⟨hs, h1.below hb, h2⟩
theorem NamL.len {w : World} {A : Option Addr} {n c : Nat} {ns : List ByteArray} (h : NamL w A n c ns) : ns.length = n := by
  obtain ⟨hs, h1, h2⟩ := h
  have := h1.1.1
  rw [flat2_len hbv hbv_len] at this
  rw [← h2, List.length_map]
  omega
def nat_ (ns : List ByteArray) (i : Nat) : ByteArray := (ns[i]?).getD ByteArray.empty
theorem NamL.at {w : World} {A : Option Addr} {n c i : Nat} {ns : List ByteArray} (h : NamL w A n c ns) (hi : i < n) : ∃ b off u, A = some ⟨b, off, none⟩ ∧ At w ⟨b, off + i * 2, none⟩ (.string (nat_ ns i)) ∧ At w ⟨b, off + i * 2 + 1, none⟩ u := by
  have hl := h.len
  obtain ⟨hs, h1, h2⟩ := h
  obtain ⟨b, off, e, hb, hc⟩ := h1.2 (by omega)
  have hlh : hs.length = n := by rw [← hl, ← h2, List.length_map]
  have hh : hs[i]? = some (hs[i]'(by omega)) := List.getElem?_eq_getElem (by omega)
  have hf := fun j hj => flat2 hbv hbv_len hs i j _ hh hj
  have hn : nat_ ns i = (hs[i]'(by omega)).1 := by
    have h5 : ns[i]? = some (hs[i]'(by omega)).1 := by
      subst h2
      rw [List.getElem?_map, hh]; rfl
    unfold nat_
    rw [h5]; rfl
  refine ⟨b, off, shv (hs[i]'(by omega)).2, e, ⟨?_, hb⟩, ⟨?_, hb⟩⟩
  · have := hf 0 (by omega); rw [Nat.add_zero] at this; rw [hc _ (by omega), this, hn]; rfl
  · rw [Nat.add_assoc, hc _ (by omega), hf 1 (by omega)]; rfl
theorem ListI.nam {L : Nat} {w : World} {A : Option Addr} {n c : Nat} {bs : List Bn} (H : ListI L w (.slice A n c) bs) : NamL w A n c (bs.map (·.1)) := by
  obtain ⟨_, _, _, hs, e, h1, h2, h3⟩ := H
  injection e with e1 e2 e3
  subst e1 e2 e3
  refine ⟨hs, h1, List.ext_getElem (by simp [h3.1]) fun i h4 h5 => ?_⟩
  have h6 : i < hs.length := by simpa using h4
  have h7 : i < bs.length := by rw [← h3.1]; exact h6
  have := (h3.2 i _ _ (List.getElem?_eq_getElem h6) (List.getElem?_eq_getElem h7)).1
  simpa using this
set_option maxHeartbeats 4000000 in
set_option maxRecDepth 100000 in
theorem bsf_any {A : Option Addr} {n c : Nat} {ns : List ByteArray} {t : ByteArray} {u : Value} {w : World} (h : NamL w A n c ns) (hn : n ≤ 1073741824)
    (hm : ∀ i j, i ≤ j → j < n → bcmp (nat_ ns j) t < 0 → bcmp (nat_ ns i) t < 0) :
    Calls Tryz.prog 85 #[.slice A n c, .agg #[.string t, u], .func (.func 50) #[] #[]] w (fun e w' => ∃ i : Nat, e = .returned (.tuple #[.int .i64 (i : Int), .bool (decide (i < n) && decide (bcmp (nat_ ns i) t = 0))]) ∧
      Hid (i ≤ n ∧ (∀ k, k < i → bcmp (nat_ ns k) t < 0) ∧ ∀ k, i ≤ k → k < n → 0 ≤ bcmp (nat_ ns k) t) ∧ Below w.heap.size w w') := by
  have H := Lib.hid h
  have HM := Lib.hid hm
  clear h hm
  go_enter Tryz.func85, Tryz.ntmps85
  have HT0 : Hid (At (World.alloc w (.cells #[.string t, u] 56)) ⟨w.heap.size, 0, none⟩ (.string t)) := (At.boxc (i := 0) (v := .string t) (t := 56) (b := w.heap.size) w #[.string t, u] rfl (by simp))
  have HT1 : Hid (At (World.alloc w (.cells #[.string t, u] 56)) ⟨w.heap.size, 1, none⟩ u) := (At.boxc (i := 1) (v := u) (t := 56) (b := w.heap.size) w #[.string t, u] rfl (by simp))
  have HBB : Hid (Below w.heap.size w (World.alloc w (.cells #[.string t, u] 56))) := ((Below.refl _ _).alloc (Nat.le_refl _) (.cells #[.string t, u] 56))
  go_wp2
  go_loopw [9, 10] (fun av bv wr => ∃ (i j : Nat), Hid (Below (World.alloc w (.cells #[.string t, u] 56)).heap.size (World.alloc w (.cells #[.string t, u] 56)) wr ∧ (∀ k, k < i → bcmp (nat_ ns k) t < 0) ∧ ∀ k, j ≤ k → k < n → 0 ≤ bcmp (nat_ ns k) t) ∧ i ≤ j ∧ j ≤ n ∧ av = .int .i64 (i : Int) ∧ bv = .int .i64 (j : Int)) (fun av bv _ => (intOf bv).toNat - (intOf av).toNat)
  case atStart => exact ⟨0, n, ⟨Below.refl _ _, fun k hk => absurd hk (Nat.not_lt_zero k), fun k h1 h2 => by omega⟩, Nat.zero_le _, Nat.le_refl _, rfl, rfl⟩
  case round =>
    obtain ⟨i, j, hI, hij, hj, rfl, rfl⟩ := hrel
    rcases Nat.lt_or_ge i j with hlt | hge
    · have i1 : (i : Int) < (j : Int) := by omega
      obtain ⟨m, em, hm1, hm2⟩ : ∃ m : Nat, ((i : Int) + (j : Int)) / 2 = (m : Int) ∧ i ≤ m ∧ m < j := ⟨(i + j) / 2, by omega, by omega, by omega⟩
      obtain ⟨b, off, v, e, g0, g1⟩ := ((H.out.below HBB.out).below hI.out.1).at (i := m) (by omega)
      subst e
      have i2 : (0 : Int) ≤ (m : Int) := by omega
      have i3 : (m : Int) < (n : Int) := by omega
      by_cases hc : bcmp (nat_ ns m) t < 0
      · have d1 : decide (bcmp (nat_ ns m) t < 0) = true := decide_eq_true hc
        go_wp2_with fail
        go_wp2_with fail
        have e_f0 := (HT0.out.below hI.out.1).1
        have g_f0 := At.grow (HT0.out.below hI.out.1)
        have e_f1 := (HT1.out.below hI.out.1).1
        have g_f1 := At.grow (HT1.out.below hI.out.1)
        have e_g0 := g0.1
        have g_g0 := At.grow g0
        have e_g1 := g1.1
        have g_g1 := At.grow g1
        refine wp_region_grow none [(true, 0), (true, 1), (true, 2), (true, 3), (true, 4), (true, 5), (false, 6), (true, 7)] (by kernel_rfl) (by kernel_rfl) ?_
        repeat (refine ord_pas (by rfl) (fun K hK => ?_); go_simp; refine hK _ _ (fun w' hw' => (by first | (go_simp; done) | (go_simp; intro hh; cases hh))) ?_; clear hK K)
        (refine ord_call (by rfl) (fun K hK => ?_); go_simp; refine hK _ _ ?_; clear hK K)
        refine (byName_any (nat_ ns m) t v u _).mono ?_
        rintro e w1 ⟨rfl, hb1⟩
        refine ⟨_, rfl, Grow.of_below hb1, ?_⟩
        (refine ord_norm (fun K hK => ?_); go_simp; refine hK _ ?_; clear hK K)
        repeat (refine ord_pas (by rfl) (fun K hK => ?_); go_simp; refine hK _ _ (fun w' hw' => (by first | (go_simp; done) | (go_simp; intro hh; cases hh))) ?_; clear hK K)
        refine ord_nil ?_
        have HN : Hid (Below (World.alloc w (.cells #[.string t, u] 56)).heap.size (World.alloc w (.cells #[.string t, u] 56)) w1 ∧ (∀ k, k < m + 1 → bcmp (nat_ ns k) t < 0) ∧ ∀ k, j ≤ k → k < n → 0 ≤ bcmp (nat_ ns k) t) := ⟨bt hI.out.1 (bt (Below.refl _ _).drew hb1), fun k hk => HM.out k m (by omega) (by omega) hc, hI.out.2.2⟩
        go_wp2
        go_roundw
        case rel => exact ⟨m + 1, j, HN, by omega, by omega, by go_num, rfl⟩
        case measure => simp [intOf]; omega
      · have d1 : decide (bcmp (nat_ ns m) t < 0) = false := decide_eq_false hc
        go_wp2_with fail
        go_wp2_with fail
        have e_f0 := (HT0.out.below hI.out.1).1
        have g_f0 := At.grow (HT0.out.below hI.out.1)
        have e_f1 := (HT1.out.below hI.out.1).1
        have g_f1 := At.grow (HT1.out.below hI.out.1)
        have e_g0 := g0.1
        have g_g0 := At.grow g0
        have e_g1 := g1.1
        have g_g1 := At.grow g1
        refine wp_region_grow none [(true, 0), (true, 1), (true, 2), (true, 3), (true, 4), (true, 5), (false, 6), (true, 7)] (by kernel_rfl) (by kernel_rfl) ?_
        repeat (refine ord_pas (by rfl) (fun K hK => ?_); go_simp; refine hK _ _ (fun w' hw' => (by first | (go_simp; done) | (go_simp; intro hh; cases hh))) ?_; clear hK K)
        (refine ord_call (by rfl) (fun K hK => ?_); go_simp; refine hK _ _ ?_; clear hK K)
        refine (byName_any (nat_ ns m) t v u _).mono ?_
        rintro e w2 ⟨rfl, hb2⟩
        refine ⟨_, rfl, Grow.of_below hb2, ?_⟩
        (refine ord_norm (fun K hK => ?_); go_simp; refine hK _ ?_; clear hK K)
        repeat (refine ord_pas (by rfl) (fun K hK => ?_); go_simp; refine hK _ _ (fun w' hw' => (by first | (go_simp; done) | (go_simp; intro hh; cases hh))) ?_; clear hK K)
        refine ord_nil ?_
        have HN : Hid (Below (World.alloc w (.cells #[.string t, u] 56)).heap.size (World.alloc w (.cells #[.string t, u] 56)) w2 ∧ (∀ k, k < i → bcmp (nat_ ns k) t < 0) ∧ ∀ k, m ≤ k → k < n → 0 ≤ bcmp (nat_ ns k) t) := ⟨bt hI.out.1 (bt (Below.refl _ _).drew hb2), hI.out.2.1, fun k h1 h2 => Int.not_lt.1 fun h3 => by have := HM.out m k h1 h2 h3; omega⟩
        go_wp2
        go_roundw
        case rel => exact ⟨i, m, HN, by omega, by omega, rfl, rfl⟩
        case measure => simp [intOf]; omega
    · obtain rfl : i = j := by omega
      have HR : Hid (i ≤ n ∧ (∀ k, k < i → bcmp (nat_ ns k) t < 0) ∧ ∀ k, i ≤ k → k < n → 0 ≤ bcmp (nat_ ns k) t) := ⟨hj, hI.out.2.1, hI.out.2.2⟩
      have HBI := Lib.hid hI.out.1
      have HB0 := Lib.hid (bt HBB.out hI.out.1)
      rcases Nat.lt_or_ge i n with hin | hin
      · obtain ⟨b, off, v, e, g0, g1⟩ := ((H.out.below HBB.out).below hI.out.1).at (i := i) (by omega)
        subst e
        have i2 : (0 : Int) ≤ (i : Int) := by omega
        have i3 : (i : Int) < (n : Int) := by omega
        clear hI
        go_wp2_with fail
        go_wp2_with fail
        have e_f0 := (HT0.out.below HBI.out).1
        have g_f0 := At.grow (HT0.out.below HBI.out)
        have e_f1 := (HT1.out.below HBI.out).1
        have g_f1 := At.grow (HT1.out.below HBI.out)
        have e_g0 := g0.1
        have g_g0 := At.grow g0
        have e_g1 := g1.1
        have g_g1 := At.grow g1
        refine wp_region_grow none [(true, 0), (true, 1), (true, 2), (true, 3), (true, 4), (true, 5), (true, 6), (true, 7), (true, 8), (true, 9), (true, 10), (false, 11), (true, 12), (true, 13), (true, 14), (true, 15)] (by kernel_rfl) (by kernel_rfl) ?_
        repeat (refine ord_pas (by rfl) (fun K hK => ?_); go_simp; refine hK _ _ (fun w' hw' => (by first | (go_simp; done) | (go_simp; intro hh; cases hh))) ?_; clear hK K)
        (refine ord_call (by rfl) (fun K hK => ?_); go_simp; refine hK _ _ ?_; clear hK K)
        refine (byName_any (nat_ ns i) t v u _).mono ?_
        rintro e w1 ⟨rfl, hb1⟩
        refine ⟨_, rfl, Grow.of_below hb1, ?_⟩
        (refine ord_norm (fun K hK => ?_); go_simp; refine hK _ ?_; clear hK K)
        repeat (refine ord_pas (by rfl) (fun K hK => ?_); go_simp; refine hK _ _ (fun w' hw' => (by first | (go_simp; done) | (go_simp; intro hh; cases hh))) ?_; clear hK K)
        refine ord_nil ?_
        have HB := Lib.hid (bt HB0.out (bt (Below.refl _ _).drew hb1))
        have hd : decide (i < n) = true := decide_eq_true hin
        generalize hz : bcmp (nat_ ns i) t = z
        go_wp2
        go_ret2
        exact ⟨i, by rw [hd, hz]; rfl, HR.out, HB.out⟩
      · have hd : decide (i < n) = false := decide_eq_false (by omega)
        have d1 : ((i : Int) < (n : Int)) = False := by simp; omega
        clear hI
        go_wp2_with fail
        refine wp_region_grow none [(true, 0), (true, 1), (true, 2), (true, 3), (true, 4), (true, 5), (true, 6), (true, 7), (true, 8), (true, 9), (true, 10), (true, 11), (true, 12), (true, 13), (true, 14), (true, 15)] (by kernel_rfl) (by kernel_rfl) ?_
        repeat (refine ord_pas (by rfl) (fun K hK => ?_); go_simp; refine hK _ _ (fun w' hw' => (by first | (go_simp; done) | (go_simp; intro hh; cases hh))) ?_; clear hK K)
        refine ord_nil ?_
        go_wp2
        go_ret2
        exact ⟨i, by rw [hd]; rfl, HR.out, HB0.out.drew⟩
set_option maxHeartbeats 1000000 in
theorem find_any {A : Option Addr} {n c : Nat} {ns : List ByteArray} {t : ByteArray} {w : World} (h : NamL w A n c ns) (hn : n ≤ 1073741824)
    (hm : ∀ i j, i ≤ j → j < n → bcmp (nat_ ns j) t < 0 → bcmp (nat_ ns i) t < 0) :
    Calls Tryz.prog 69 #[.slice A n c, .string t] w (fun e w' => ∃ i : Nat, e = .returned (.tuple #[.int .i64 (i : Int), .bool (decide (i < n) && decide (bcmp (nat_ ns i) t = 0))]) ∧
      Hid (i ≤ n ∧ (∀ k, k < i → bcmp (nat_ ns k) t < 0) ∧ ∀ k, i ≤ k → k < n → 0 ≤ bcmp (nat_ ns k) t) ∧ Below w.heap.size w w') := by
  have C := Lib.hid (bsf_any (u := .slice none 0 0) h hn hm)
  clear h hm
  go_enter Tryz.func69, Tryz.ntmps69
  go_wp2_with fail
  refine C.out.mono ?_
  rintro e w1 ⟨i, rfl, hi, hb⟩
  have HB := Lib.hid hb
  generalize hz : (decide (i < n) && decide (bcmp (nat_ ns i) t = 0)) = z
  go_wp2
  go_ret2
  exact ⟨i, by rw [hz]; rfl, hi, HB.out⟩
end Go.Proofs.YthckmpfhlgcjhaaGreat
