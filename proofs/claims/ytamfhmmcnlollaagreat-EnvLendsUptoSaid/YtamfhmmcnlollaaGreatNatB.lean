/-
  limb.Cmp; nat.Cmp, Bits, Sub below 0, Diff, IsNorm, Shl, Shr.
-/
import Derived.Test.YtamfhmmcnlollaaGreatFixed
import Derived.Test.YtamfhmmcnlollaaGreatShX
namespace Go.Proofs.YtamfhmmcnlollaaGreat
open Go.RowKit
set_option linter.unusedVariables false

set_option maxHeartbeats 1000000 in
theorem lcmp_any {A A2 : Option Addr} {n c m c2 : Nat} {xs ys : List Nat} {w : World} (h : Rd .u64 w A n c xs) (h' : Rd .u64 w A2 m c2 ys) (hx : All W xs) (hy : All W ys) (hn : n ≤ 1099511627776) (hm : m ≤ 1099511627776) :
    Calls Tryz.prog 145 #[.slice A n c, .slice A2 m c2] w (fun e w' => e = .returned (.int .i64 (cmpN (val W xs) (val W ys))) ∧ w = w') := by
  have hmx := fun (ts : Array TypeId) (t : TypeId) => run_max2 (P := Tryz.prog) ts t n m w
  obtain ⟨M, hM⟩ : ∃ M, M = max n m := ⟨_, rfl⟩
  rw [← hM] at hmx
  have H := Lib.hid h
  have H' := Lib.hid h'
  have HX := Lib.hid hx
  have HY := Lib.hid hy
  clear h h' hx hy
  go_enter Tryz.func145, Tryz.ntmps145
  go_wp2
  go_step3
  go_wp2
  go_step3
  go_wp2
  go_loop [6] (fun iv => ∃ k : Nat, Hid (∀ j, k ≤ j → nth xs j = nth ys j) ∧ k ≤ M ∧ iv = .int .i64 ((k : Int) - 1)) (fun iv => (intOf iv + 1).toNat)
  case atStart =>
    refine ⟨M, fun j hj => ?_, Nat.le_refl _, ?_⟩
    · rw [nth_ge (by rw [H.out.len]; omega), nth_ge (by rw [H'.out.len]; omega)]
    · rw [← hM]
  case round =>
    obtain ⟨k, hI, hk, rfl⟩ := hrel
    by_cases hk0 : 0 < k
    · obtain ⟨p, rfl⟩ : ∃ p, k = p + 1 := ⟨k - 1, by omega⟩
      have em : ((p + 1 : Nat) : Int) - 1 = (p : Int) := by omega
      rw [em]
      clear em
      have c1 := Lib.hid (at_any A n c p xs w H.out rfl hn)
      have c2 := Lib.hid (at_any A2 m c2 p ys w H'.out rfl hm)
      go_wp2_with fail
      refine c1.out.mono ?_
      rintro e w' ⟨rfl, rfl⟩
      go_wp2_with fail
      refine c2.out.mono ?_
      rintro e w' ⟨rfl, rfl⟩
      by_cases h0 : nth xs p = nth ys p
      · have q0 : (((nth xs p : Nat) : Int) == ((nth ys p : Nat) : Int)) = true := by simp [h0]
        have H0 := Lib.hid h0
        clear h0
        go_wp2
        go_round
        case rel =>
          refine ⟨p, fun j hj => ?_, by omega, by go_num⟩
          by_cases hjp : j = p
          · subst hjp; exact H0.out
          · exact hI.out j (by omega)
        case measure => simp [intOf]
      · have q0 : (((nth xs p : Nat) : Int) == ((nth ys p : Nat) : Int)) = false := by rw [beq_eq_false_iff_ne]; omega
        have H0 := Lib.hid h0
        clear h0
        by_cases h1 : nth xs p < nth ys p
        · go_wp2
          rw [Exit.noGoto_ret]
          go_ret
          have e0 : cmpN (val W xs) (val W ys) = -1 := by rw [cmpN, if_pos (val_lt_nth HX.out W_pos (fun j hj => hI.out j hj) h1)]
          rw [e0]
          exact ⟨rfl, rfl⟩
        · go_wp2
          rw [Exit.noGoto_ret]
          go_ret
          have := val_lt_nth HY.out W_pos (fun j hj => (hI.out j hj).symm) (by have := H0.out; omega)
          have e0 : cmpN (val W xs) (val W ys) = 1 := by rw [cmpN, if_neg (by omega), if_pos this]
          rw [e0]
          exact ⟨rfl, rfl⟩
    · obtain rfl : k = 0 := by omega
      go_wp2
      go_ret
      have := val_eq_nth (b := W) (fun j => hI.out j (Nat.zero_le _))
      have e0 : cmpN (val W xs) (val W ys) = 0 := by rw [cmpN, if_neg (by omega), if_neg (by omega)]
      rw [e0]
      exact ⟨rfl, rfl⟩
theorem ncmp_any {v u : Value} {x y L M : Nat} {w : World} (h : Num w v x L) (h' : Num w u y M) (hL : L ≤ 1099511627776) (hM : M ≤ 1099511627776) :
    Calls Tryz.prog 115 #[v, u] w (fun e w' => e = .returned (.int .i64 (cmpN x y)) ∧ w = w') := by
  obtain ⟨A, n, c, xs, rfl, h1, h2, rfl, h4⟩ := h
  obtain ⟨A2, m, c2, ys, rfl, k1, k2, rfl, k4⟩ := h'
  have C := Lib.hid (lcmp_any h1 k1 h2 k2 (by omega) (by omega))
  generalize cmpN (val W xs) (val W ys) = z at *
  clear h1 h2 k1 k2
  go_enter Tryz.func115, Tryz.ntmps115
  go_wp2_with fail
  refine C.out.mono ?_
  rintro e w' ⟨rfl, rfl⟩
  go_wp2
  go_ret
  exact ⟨rfl, rfl⟩

/-- the bits of a number -/
def nb (x : Nat) : Nat := if x = 0 then 0 else x.log2 + 1
theorem nb_uniq {x k : Nat} (h1 : 2 ^ k ≤ x) (h2 : x < 2 ^ (k + 1)) : nb x = k + 1 := by
  have h0 : x ≠ 0 := by have := two_pos k; omega
  rw [nb, if_neg h0]
  have a := (Nat.log2_lt h0).2 h2
  have b := (Nat.le_log2 h0).2 h1
  omega
theorem nb_lt (x : Nat) : x < 2 ^ nb x := by
  by_cases h0 : x = 0
  · subst h0; simp [nb]
  · rw [nb, if_neg h0]
    exact (Nat.log2_lt h0).1 (Nat.lt_succ_self _)
theorem nb_le {x : Nat} (h0 : 0 < x) : 2 ^ (nb x - 1) ≤ x ∧ 0 < nb x := by
  rw [nb, if_neg (by omega)]
  exact ⟨(Nat.le_log2 (by omega)).1 (Nat.le_refl _), Nat.succ_pos _⟩
theorem nbits_val {xs : List Nat} (h : All W xs) : nbits xs = nb (val W xs) := by
  have ha := strip_all h
  have hv := strip_val (b := W) xs
  unfold nbits
  by_cases h0 : (strip xs).length = 0
  · rw [if_pos h0, (strip_nil_iff h).1 h0]; rfl
  · rw [if_neg h0, ← hv]
    rcases snoc_cases (strip xs) with e | ⟨ys, y, e⟩
    · rw [e] at h0; exact absurd rfl h0
    · have hy0 : y ≠ 0 := by
        intro hy
        have := strip_idem xs
        rw [e, hy, strip_snoc_zero] at this
        have hl := strip_length_le ys
        have := congrArg List.length this
        simp at this
        omega
      have e1 : nth xs ((strip xs).length - 1) = y := by
        have e2 := strip_take xs
        have : nth (strip xs) ((strip xs).length - 1) = y := by rw [e]; simp [nth]
        rw [← this]
        rw [e2]
        unfold nth
        rw [List.getElem?_take, if_pos (by rw [← e2]; omega), ← e2]
      rw [e1, e]
      rw [e] at ha
      have hyW : y < W := ha y (by simp)
      have hys : All W ys := fun z hz => ha z (by simp [hz])
      have b1 := blen_ge hyW (by omega)
      have b2 := blen_lt hyW
      have l := val_lt hys
      rw [W_pow2] at l
      have hval : val W (ys ++ [y]) = val W ys + 2 ^ (64 * ys.length) * y := by rw [val_append, W_pow2]; simp [val]
      have hlen : (ys ++ [y]).length - 1 = ys.length := by simp
      rw [hlen, hval]
      obtain ⟨p, hp⟩ : ∃ p, blen y = p + 1 := ⟨blen y - 1, by omega⟩
      rw [hp] at b1 b2 ⊢
      rw [Nat.mul_comm ys.length 64]
      symm
      show nb _ = 64 * ys.length + p + 1
      refine nb_uniq (k := 64 * ys.length + p) ?_ ?_
      · rw [Nat.pow_add]
        have : 2 ^ (64 * ys.length) * 2 ^ p ≤ 2 ^ (64 * ys.length) * y := Nat.mul_le_mul_left _ b1.1
        omega
      · rw [Nat.add_assoc, Nat.pow_add]
        have : 2 ^ (64 * ys.length) * (y + 1) ≤ 2 ^ (64 * ys.length) * 2 ^ (p + 1) := Nat.mul_le_mul_left _ b2
        rw [Nat.mul_succ] at this
        omega
theorem nbits_any {v : Value} {x L : Nat} {w : World} (h : Num w v x L) (hL : L ≤ 17179869184) :
    Calls Tryz.prog 113 #[v] w (fun e w' => e = .returned (.int .i64 ((nb x : Nat) : Int)) ∧ w = w') := by
  obtain ⟨A, n, c, xs, rfl, h1, h2, rfl, h4⟩ := h
  have C := Lib.hid (lbits_any h1 h2 (by omega))
  rw [nbits_val h2] at C
  generalize nb (val W xs) = z at *
  clear h1 h2
  go_enter Tryz.func113, Tryz.ntmps113
  go_wp2_with fail
  refine C.out.mono ?_
  rintro e w' ⟨rfl, rfl⟩
  go_wp2
  go_ret
  exact ⟨rfl, rfl⟩
end Go.Proofs.YtamfhmmcnlollaaGreat
