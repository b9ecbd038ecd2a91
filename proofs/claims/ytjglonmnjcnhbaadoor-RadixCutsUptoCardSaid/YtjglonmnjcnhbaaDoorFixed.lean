/-
  limb.Bits; surdref01.Same; surdlaw01.fixed.
-/
import Derived.Test.YtjglonmnjcnhbaaDoorRef1E
import Derived.Test.YtjglonmnjcnhbaaDoorBitsB
import Derived.Test.YtjglonmnjcnhbaaDoorDivOne
namespace Go.Proofs.YtjglonmnjcnhbaaDoor
open Go.RowKit
set_option linter.unusedVariables false
/-- the bits of a number in words -/
def nbits (xs : List Nat) : Nat := if (strip xs).length = 0 then 0 else ((strip xs).length - 1) * 64 + blen (nth xs ((strip xs).length - 1))
set_option maxHeartbeats 400000 in
theorem lbits_any {A : Option Addr} {n c : Nat} {xs : List Nat} {w : World} (h : Rd .u64 w A n c xs) (hx : All W xs) (hn : n ≤ 17179869184) :
    Calls Tryd.prog 66 #[.slice A n c] w (fun e w' => e = .returned (.int .i64 ((nbits xs : Nat) : Int)) ∧ w = w') := by
  have c1 := Lib.hid (top_any A n c xs w h (by omega))
  have hl : (strip xs).length ≤ n := by have := strip_length_le xs; rw [h.len] at this; exact this
  obtain ⟨t, ht⟩ : ∃ t, t = (strip xs).length := ⟨_, rfl⟩
  have HT : Hid (nbits xs = if t = 0 then 0 else (t - 1) * 64 + blen (nth xs (t - 1))) := by show _ = _; rw [nbits, ht]
  rw [← ht] at c1 hl
  by_cases h0 : t = 0
  · subst h0
    have HT2 : Hid (nbits xs = 0) := HT.out.trans (if_pos rfl)
    clear ht h
    go_enter Tryd.func66, Tryd.ntmps66
    go_wp2_with fail
    refine c1.out.mono ?_
    rintro e w' ⟨rfl, rfl⟩
    go_wp2
    go_ret
    rw [HT2.out]
    exact ⟨rfl, rfl⟩
  · obtain ⟨p, rfl⟩ : ∃ p, t = p + 1 := ⟨t - 1, by omega⟩
    have HT2 : Hid (nbits xs = p * 64 + blen (nth xs p)) := by show _ = _; rw [HT.out, if_neg (by omega)]; rfl
    obtain ⟨b, off, ea, hb, hca⟩ := h.at (i := p) (by omega)
    subst ea
    have hxp := hx.nth W_pos p
    have c2 := Lib.hid (len64_any (w := w) (x := nth xs p) rfl hxp)
    have hbl : blen (nth xs p) ≤ 64 := blen_le hxp
    generalize nth xs p = u at *
    generalize blen u = v at *
    have q1 : (((p : Int) + 1) == 0) = false := by rw [beq_eq_false_iff_ne]; omega
    clear ht h HT hxp h0
    go_enter Tryd.func66, Tryd.ntmps66
    go_wp2_with fail
    refine c1.out.mono ?_
    rintro e w' ⟨rfl, rfl⟩
    go_wp2_with fail
    refine c2.out.mono ?_
    rintro e w' ⟨rfl, rfl⟩
    go_wp2
    go_ret
    rw [HT2.out]
    exact ⟨ret_int (by omega), rfl⟩

theorem fixAddW {w : World} : Calls Tryd.prog 77 #[.int .u64 18446744073709551615, .int .u64 1, .int .u64 0] w fun e w' => e = .returned (.tuple #[.int .u64 0, .int .u64 1]) ∧ w = w' :=
  addW_any 18446744073709551615 1 0 w (by decide) (by decide) (by decide) rfl rfl rfl
theorem rd2 {w : World} {x y : Nat} : Rd .u64 (w.alloc (.cells #[.int .u64 (x : Int), .int .u64 (y : Int)] 27)) (some ⟨w.heap.size, 0, none⟩) 2 2 [x, y] :=
  (Own.lit (k := .u64) (t := 27) (B := 0) w [x, y] (by simp [maxLen]) (Nat.zero_le _)).rd
theorem belowA (w : World) (o : Obj) : Below w.heap.size w (w.alloc o) := (Below.refl _ _).alloc (Nat.le_refl _) o
theorem fixAdd {w : World} {b : Nat} (hb0 : b = (w.alloc (.cells #[.int .u64 18446744073709551615, .int .u64 0] 27)).heap.size) : Calls Tryd.prog 43 #[.slice (some ⟨w.heap.size, 0, none⟩) 2 2, .slice (some ⟨b, 0, none⟩) 1 1]
    ((w.alloc (.cells #[.int .u64 18446744073709551615, .int .u64 0] 27)).alloc (.cells #[.int .u64 1] 27)) (Gives2 .u64 27 w [0, 1] (.int .u64 0)) := by
  subst hb0
  have h1 : Rd .u64 (w.alloc (.cells #[.int .u64 18446744073709551615, .int .u64 0] 27)) (some ⟨w.heap.size, 0, none⟩) 2 2 [18446744073709551615, 0] := rd2
  have h2 : Rd .u64 ((w.alloc (.cells #[.int .u64 18446744073709551615, .int .u64 0] 27)).alloc (.cells #[.int .u64 1] 27)) (some ⟨(w.alloc (.cells #[.int .u64 18446744073709551615, .int .u64 0] 27)).heap.size, 0, none⟩) 1 1 [1] := Rd.lit1 _ 1
  have e1 : wds W (max 2 1) (val W [18446744073709551615, 0] + val W [1]) = [0, 1] := by decide
  have e2 : (val W [18446744073709551615, 0] + val W [1]) / W ^ (max 2 1) = 0 := by decide
  refine (ladd_any _ _ _ _ _ _ _ _ _ (h1.alloc _) h2 ?_ ?_ (by omega) (by omega)).mono ?_
  · exact All.cons (by decide) (All.cons (by decide) All.nil)
  · exact All.cons (by decide) All.nil
  · rintro e w' ⟨A, n, c, rfl, o, hb⟩
    rw [e1] at o
    rw [e2]
    exact ⟨A, n, c, rfl, o.mono (by simp; omega), bt (bt (belowA _ _) (belowA _ _)) hb⟩
theorem fixDiv {w : World} : Calls Tryd.prog 83 #[.slice (some ⟨w.heap.size, 0, none⟩) 2 2, .int .u64 2]
    (w.alloc (.cells #[.int .u64 0, .int .u64 1] 27)) (Gives3 .u64 27 w [9223372036854775808, 0] (.int .u64 0) (.int .i64 0)) := by
  have h1 : Rd .u64 (w.alloc (.cells #[.int .u64 0, .int .u64 1] 27)) (some ⟨w.heap.size, 0, none⟩) 2 2 [0, 1] := rd2
  have e1 : wds W 2 (val W [0, 1] / 2) = [9223372036854775808, 0] := by decide
  have e2 : val W [0, 1] % 2 = 0 := by decide
  refine (divOne_any (y := 2) (y' := 2) h1 ?_ rfl (by omega) (by decide) (by omega)).mono ?_
  · exact All.cons (by decide) (All.cons (by decide) All.nil)
  · rintro e w' ⟨A, n, c, rfl, o, hb⟩
    rw [e1] at o
    rw [e2]
    exact ⟨A, n, c, rfl, o.mono (by simp), bt (belowA _ _) hb⟩
theorem fixBits {w : World} : Calls Tryd.prog 66 #[.slice (some ⟨w.heap.size, 0, none⟩) 2 2]
    (w.alloc (.cells #[.int .u64 0, .int .u64 1] 27)) (fun e w' => e = .returned (.int .i64 65) ∧ Below w.heap.size w w') := by
  have h1 : Rd .u64 (w.alloc (.cells #[.int .u64 0, .int .u64 1] 27)) (some ⟨w.heap.size, 0, none⟩) 2 2 [0, 1] := rd2
  refine (lbits_any h1 ?_ (by omega)).mono ?_
  · exact All.cons (by decide) (All.cons (by decide) All.nil)
  · rintro e w' ⟨rfl, rfl⟩
    refine ⟨?_, belowA _ _⟩
    have : nbits [0, 1] = 65 := by decide
    rw [this]
    rfl
end Go.Proofs.YtjglonmnjcnhbaaDoor
