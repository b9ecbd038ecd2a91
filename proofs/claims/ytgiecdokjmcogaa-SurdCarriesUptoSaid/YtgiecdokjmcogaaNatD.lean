/-
  nat.Cut.
-/
import Derived.Test.YtgiecdokjmcogaaNatC
namespace Go.Proofs.Ytgiecdokjmcogaa
open Go.RowKit
set_option linter.unusedVariables false

theorem mask_word {x r : Nat} (hx : x < W) (hr : r < 64) : bits .and .u64 (x : Int) (IntKind.u64.wrap (IntKind.u64.wrap (2 ^ r) - 1)) = ((x % 2 ^ r : Nat) : Int) := by
  have h1 : 2 ^ r ≤ 2 ^ 63 := Nat.pow_le_pow_right (by omega) (by omega)
  have h0 := two_pos r
  have e1 : ((2 : Int) ^ r) = ((2 ^ r : Nat) : Int) := by rw [Int.natCast_pow]; rfl
  rw [e1]
  generalize hp : 2 ^ r = p at *
  have e2 : IntKind.u64.wrap (p : Int) = (p : Int) := wrapN _ (by omega)
  have e3 : IntKind.u64.wrap ((p : Int) - 1) = ((p - 1 : Nat) : Int) := by rw [IntKind.wrap_u64]; omega
  rw [e2, e3]
  have h := bits_and_u64_nat x (p - 1) hx (by omega)
  rw [h]
  congr 1
  rw [← hp, Nat.and_two_pow_sub_one_eq_mod]

set_option maxHeartbeats 2000000 in
set_option maxRecDepth 100000 in
theorem ncut_any {v : Value} {x L s : Nat} {s' : Int} {w : World} (h : Num w v x L) (es : s' = (s : Int)) (hs : s ≤ 9223372036854775807) (hL : L ≤ 4294967296) :
    Calls Try.prog 107 #[v, .int .i64 s'] w (GN2E w (x / 2 ^ s) L (x % 2 ^ s) L 0) := by
  subst es
  have d1 : decide ((s : Int) < 0) = false := by simp
  have C1 := Lib.hid (nshr_any h rfl hs hL)
  obtain ⟨A, n, c, xs, rfl, h1, h2, rfl, h4⟩ := h
  have hlost := lost_eq h2 s
  have q1 := lay (show (s : Int) / 64 = ((s / 64 : Nat) : Int) by omega)
  have q2 := lay (show (s : Int) % 64 = ((s % 64 : Nat) : Int) by omega)
  have q3 := lay (show (s : Int).tmod 64 = ((s % 64 : Nat) : Int) by rw [Int.tmod_eq_emod_of_nonneg (by omega)]; omega)
  have q4 := lay (show (s : Int).tdiv 64 = ((s / 64 : Nat) : Int) by rw [Int.tdiv_eq_ediv_of_nonneg (by omega)]; omega)
  have hrl : s % 64 < 64 := by omega
  have hwB : s / 64 ≤ 144115188075855871 := by omega
  by_cases hlt : s / 64 < n
  · have HLO := Lib.hid hlost
    have HV : Hid (val W ((xs.take (s / 64 + 1)).set (s / 64) (nth xs (s / 64) % 2 ^ (s % 64))) = val W xs % 2 ^ s) := by
      show _ = _
      rw [hlost]
      have e : (xs.take (s / 64 + 1)).set (s / 64) (nth xs (s / 64) % 2 ^ (s % 64)) = xs.take (s / 64) ++ [nth xs (s / 64) % 2 ^ (s % 64)] := by
        rw [List.take_succ_eq_append_getElem (by rw [h1.len]; exact hlt), List.set_append_right _ _ (by simp; omega)]
        simp [List.length_take, Nat.min_eq_left (show s / 64 ≤ xs.length by rw [h1.len]; omega)]
      rw [e, val_append, List.length_take, Nat.min_eq_left (by rw [h1.len]; omega)]
      simp [val]
    have HAll : Hid (All W ((xs.take (s / 64 + 1)).set (s / 64) (nth xs (s / 64) % 2 ^ (s % 64)))) :=
      (h2.take _).set (Nat.lt_of_le_of_lt (Nat.mod_le _ _) (h2.nth W_pos _)) _
    have m1 := lay (mask_word (h2.nth W_pos (s / 64)) hrl)
    have HR := Lib.hid (h1.upto (j := s / 64 + 1) (by omega))
    have HNX : Hid (nth (xs.take (s / 64 + 1)) (s / 64) = nth xs (s / 64)) := by
      show _ = _
      unfold nth
      rw [List.getElem?_take, if_pos (by omega)]
    have hcap := h1.cap
    generalize nth xs (s / 64) % 2 ^ (s % 64) = z at *
    generalize val W xs % 2 ^ s = lowv at *
    generalize val W xs / 2 ^ s = highv at *
    generalize s / 64 = ws at *
    generalize s % 64 = r at *
    generalize nth xs ws = x0 at *
    generalize xs.take (ws + 1) = ys at *
    have s0 := lay (show IntKind.i64.wrap (ws : Int) = (ws : Int) from IntWalk.i64_in _ (by omega))
    clear h1 h2 hlost HLO
    go_enter Try.func107, Try.ntmps107
    go_wp2_with fail
    refine C1.out.mono ?_
    rintro e w1 ⟨A1, n1, c1, rfl, o1, hb1, l1⟩
    have C2 := Lib.hid (cloneN_any (w := w1) A (ws + 1) c ys (HR.out.below hb1) (by omega))
    have O1 := Lib.hid o1
    clear C1 o1
    go_wp2_with fail
    refine C2.out.mono ?_
    rintro e w2 ⟨A2, n2, c2, rfl, o2, hb2⟩
    have hn2 : n2 = ws + 1 := by rw [← o2.len, HR.out.len]
    subst hn2
    obtain ⟨g, hg, hgB, hgs⟩ := o2.form (by omega)
    subst hg
    have hcell := o2.cell (i := ws) (by omega)
    rw [HNX.out] at hcell
    have hfr := o2.frozen (i := ws)
    have O2 := Lib.hid o2
    have B2 := Lib.hid (bt hb1 hb2)
    have HgB := Lib.hid hgB
    clear o2 C2
    have i0 : (0 : Int) ≤ (ws : Int) := by omega
    have i1 : (ws : Int) < (ws : Int) + 1 := by omega
    go_wp2
    refine wp_region_still_tail 11 (by kernel_rfl) (by kernel_rfl) ?_
    simp only [List.take_succ_cons, List.take_zero, List.drop_succ_cons, List.drop_zero]
    change wpStill _ _ (World.drew _) (fun a' => wpList _ _ _ _ a' (World.drew _)) _ _
    repeat still_step
    refine wpStill_nil ?_
    change wpList _ _ _ _ _ (World.drew _)
    have O3 : Hid (Own .u64 25 w1.heap.size ((w2.drew).setCell ⟨g, ws, none⟩ (.int .u64 (z : Int))) (some ⟨g, 0, none⟩) (ws + 1) c2 (ys.set ws z)) := O2.out.drew.stored
    have C3 := Lib.hid (nown_any (w := (w2.drew).setCell ⟨g, ws, none⟩ (.int .u64 (z : Int))) (O3.out.numv HAll.out HV.out (Nat.le_refl _)) (by omega))
    go_wp2_with fail
    refine C3.out.mono ?_
    rintro e w3 ⟨A3, n3, c3, rfl, o3, hb3, l3⟩
    go_wp2
    go_ret3
    have BB : Below w1.heap.size w1 ((w2.drew).setCell ⟨g, ws, none⟩ (.int .u64 (z : Int))) := hb2.drew.setCell (p := ⟨g, ws, none⟩) HgB.out (.int .u64 (z : Int))
    have BC : Below w.heap.size w ((w2.drew).setCell ⟨g, ws, none⟩ (.int .u64 (z : Int))) := bt hb1 BB
    exact ⟨_, _, _, _, _, _, rfl, (O1.out.below BB).below hb3, o3.mono BC.size, bt BC hb3, l1, by omega⟩
  · have HV : Hid (val W xs % 2 ^ s = val W xs) := by
      show _ = _
      refine Nat.mod_eq_of_lt ?_
      have a := h1.vlt h2
      rw [W_pow2] at a
      exact Nat.lt_of_lt_of_le a (Nat.pow_le_pow_right (by omega) (by omega))
    rw [HV.out]
    have HX := Lib.hid (h1.num h2 (Nat.le_refl _))
    generalize val W xs / 2 ^ s = highv at *
    generalize s / 64 = ws at *
    clear h1 h2 hlost HV
    go_enter Try.func107, Try.ntmps107
    go_wp2_with fail
    refine C1.out.mono ?_
    rintro e w1 ⟨A1, n1, c1, rfl, o1, hb1, l1⟩
    have C2 := Lib.hid (nown_any (w := w1) (HX.out.below hb1) (by omega))
    have O1 := Lib.hid o1
    clear C1 o1
    go_wp2_with fail
    refine C2.out.mono ?_
    rintro e w2 ⟨A2, n2, c2, rfl, o2, hb2, l2⟩
    go_wp2
    go_ret3
    exact ⟨_, _, _, _, _, _, rfl, O1.out.below hb2, o2.mono hb1.size, bt hb1 hb2, l1, by omega⟩
end Go.Proofs.Ytgiecdokjmcogaa
