/-
  math/bits.TrailingZeros64 over its table; limb.Zeros, Bit; surdref01.Bit.
-/
import Derived.Test.YtgiecdokjmcogaaDoorLookA
import Derived.Lib.LaidTab
namespace Go.Proofs.YtgiecdokjmcogaaDoor
open Go.RowKit
set_option linter.unusedVariables false

/-- the table of math/bits is as its initialiser laid it -/
def TZ (w : World) : Prop := (∀ j, j < 64 → w.cell? ⟨0, j, none⟩ = some (.int .u8 ((Lib.deBruijn64tab.getD j 0 : Nat) : Int))) ∧ 0 < w.heap.size
theorem TZ.below {w w' : World} (h : TZ w) (hb : Below w.heap.size w w') : TZ w' :=
  ⟨fun j hj => (hb.cell (p := ⟨0, j, none⟩) h.2).trans (h.1 j hj), Nat.lt_of_lt_of_le h.2 hb.size⟩

theorem tz_key (x a : Nat) (hx : x < 18446744073709551616) (hx0 : x ≠ 0) (hlow : x &&& (18446744073709551616 - x) = a) :
    IntKind.u64.wrap (bits BinOp.and IntKind.u64 (x : Int) (IntKind.u64.wrap (-(x : Int))) * 285870213051353865) / 288230376151711744 = ((a * 285870213051353865 % 18446744073709551616 / 288230376151711744 : Nat) : Int) := by
  have e1 : IntKind.u64.wrap (-(x : Int)) = ((18446744073709551616 - x : Nat) : Int) := by rw [IntKind.wrap_u64]; omega
  rw [e1, bits_and_u64_nat x _ hx (by omega), hlow, IntKind.wrap_u64]
  omega
set_option maxHeartbeats 1000000 in
theorem tz_core (x k idx : Nat) (w : World) (hx0 : ((x : Int) == 0) = false)
    (key : IntKind.u64.wrap (bits BinOp.and IntKind.u64 (x : Int) (IntKind.u64.wrap (-(x : Int))) * 285870213051353865) / 288230376151711744 = (idx : Int))
    (hi : idx < 64) (hk : k < 64) (hcell : w.cell? ⟨0, idx, none⟩ = some (.int .u8 (k : Int))) :
    Calls Tryd.prog 33 #[.int .u64 (x : Int)] w fun e w' => e = .returned (.int .i64 (k : Int)) ∧ w = w' := by
  go_enter Tryd.func33, Tryd.ntmps33
  go_wp2_with (simp only [key])
  go_ret
  exact ⟨rfl, rfl⟩
theorem tz_any {x : Nat} {w : World} (hx : x < W) (h0 : x ≠ 0) (h : TZ w) :
    Calls Tryd.prog 33 #[.int .u64 (x : Int)] w fun e w' => e = .returned (.int .i64 ((Lib.ctz 64 x : Nat) : Int)) ∧ w = w' := by
  obtain ⟨hlow, hk⟩ := Lib.lowest_bit 64 x h0 hx
  obtain ⟨hi, htab⟩ := Lib.deBruijn64_at _ hk
  have hcell := h.1 _ hi
  rw [htab] at hcell
  exact tz_core x _ _ w (by simp; omega) (tz_key x _ hx h0 hlow) hi hk hcell

theorem ctz_word {x : Nat} (hx : x < W) (h0 : x ≠ 0) : ∃ m, x = 2 ^ Lib.ctz 64 x * (2 * m + 1) := by
  obtain ⟨m, hm, _⟩ := Lib.ctzFrom_spec 64 x (by omega) hx
  exact ⟨m, by rw [Lib.ctz, if_neg h0]; exact hm⟩
theorem tzn_words {xs : List Nat} (h : All W xs) {i : Nat} (hz : val W (xs.take i) = 0) (h0 : nth xs i ≠ 0) : tzn (val W xs) = i * 64 + Lib.ctz 64 (nth xs i) := by
  have hW := h.nth W_pos i
  obtain ⟨m, hm⟩ := ctz_word hW h0
  obtain ⟨_, hk⟩ := Lib.lowest_bit 64 (nth xs i) h0 hW
  generalize Lib.ctz 64 (nth xs i) = t at *
  have e : val W xs = val W (xs.take i) + W ^ i * val W (xs.drop i) := by
    have a := val_append (b := W) (xs.take i) (xs.drop i)
    rw [List.take_append_drop] at a
    have hi : i < xs.length := by
      rcases Nat.lt_or_ge i xs.length with h1 | h1
      · exact h1
      · exact absurd (nth_ge h1) h0
    rw [List.length_take, Nat.min_eq_left (by omega)] at a
    exact a
  rw [hz, Nat.zero_add, val_nth, hm, W_pow2] at e
  have hWt : W = 2 ^ t * 2 ^ (64 - t) := W_two (by omega)
  have h2 : 2 ^ (64 - t) = 2 * 2 ^ (63 - t) := by rw [show 64 - t = 63 - t + 1 by omega, Nat.pow_succ, Nat.mul_comm]
  generalize val W (xs.drop (i + 1)) = Z at e
  refine tzn_uniq (m := m + 2 ^ (63 - t) * Z) ?_
  have e3 : W * Z = 2 ^ t * (2 * (2 ^ (63 - t) * Z)) := by rw [hWt, h2, Nat.mul_assoc, Nat.mul_assoc]
  have e4 : 2 * (m + 2 ^ (63 - t) * Z) + 1 = 2 * m + 1 + 2 * (2 ^ (63 - t) * Z) := by rw [Nat.mul_add]; omega
  rw [e, e3, ← Nat.mul_add, e4, Nat.mul_comm i 64, Nat.pow_add, Nat.mul_assoc]
set_option maxHeartbeats 1000000 in
theorem lzeros_any {A : Option Addr} {n c : Nat} {xs : List Nat} {w : World} (h : Rd .u64 w A n c xs) (hx : All W xs) (ht : TZ w) (hn : n ≤ 17179869184) :
    Calls Tryd.prog 14 #[.slice A n c] w (fun e w' => e = .returned (.int .i64 ((tzn (val W xs) : Nat) : Int)) ∧ w = w') := by
  have H := Lib.hid h
  have HX := Lib.hid hx
  have HT := Lib.hid ht
  clear h hx ht
  go_enter Tryd.func14, Tryd.ntmps14
  go_wp2
  go_loop [7] (fun iv => ∃ i : Nat, Hid (val W (xs.take i) = 0) ∧ i ≤ n ∧ iv = .int .i64 i) (fun iv => n - (intOf iv).toNat)
  case atStart => exact ⟨0, by show _ = _; simp [val], by omega, rfl⟩
  case round =>
    obtain ⟨i, hI, hi, rfl⟩ := hrel
    by_cases hlt : i < n
    · obtain ⟨b, off, e, hb, hca⟩ := H.out.at hlt
      subst e
      by_cases hz : nth xs i = 0
      · have q0 : (((nth xs i : Nat) : Int) != 0) = false := by simp [hz]
        have HN : Hid (val W (xs.take (i + 1)) = 0) := by show _ = _; rw [val_take_succ', hI.out, hz]; simp
        clear hz hI
        go_wp2
        go_round
        case rel => exact ⟨i + 1, HN.out, by omega, by go_num⟩
        case measure => simp [intOf]; omega
      · have q0 : (((nth xs i : Nat) : Int) != 0) = true := by simp [hz]
        have C := Lib.hid (tz_any (w := w) (HX.out.nth W_pos i) hz HT.out)
        have HN := Lib.hid (tzn_words HX.out hI.out hz)
        obtain ⟨_, hk⟩ := Lib.lowest_bit 64 (nth xs i) hz (HX.out.nth W_pos i)
        clear hz hI
        generalize Lib.ctz 64 (nth xs i) = t at *
        generalize nth xs i = u at *
        go_wp2_with fail
        refine C.out.mono ?_
        rintro e w' ⟨rfl, rfl⟩
        go_wp2
        go_ret
        rw [HN.out]
        exact ⟨ret_int (by omega), rfl⟩
    · obtain rfl : i = n := by omega
      have HN : Hid (tzn (val W xs) = 0) := by
        show _ = _
        have := hI.out
        rw [List.take_of_length_le (by rw [H.out.len]; exact Nat.le_refl _)] at this
        rw [this]; rfl
      clear hI
      go_wp2
      go_ret
      rw [HN.out]
      exact ⟨rfl, rfl⟩

set_option maxHeartbeats 400000 in
theorem lbit_neg {v : Value} {z : Int} {w : World} (hz : z < 0) : Calls Tryd.prog 16 #[v, .int .i64 z] w (fun e w' => e = .returned (.tuple #[.int .u64 0, .int .i64 3]) ∧ w = w') := by
  have d1 : decide (z < 0) = true := by simpa using hz
  go_enter Tryd.func16, Tryd.ntmps16
  go_wp2
  go_ret2
  exact ⟨rfl, rfl⟩
theorem bit_word {x r : Nat} (hx : x < W) : bits .and .u64 (((x / 2 ^ r : Nat) : Int)) 1 = ((x / 2 ^ r % 2 : Nat) : Int) := by
  have h := bits_and_u64_nat (x / 2 ^ r) 1 (Nat.lt_of_le_of_lt (Nat.div_le_self _ _) hx) (by omega)
  rw [Nat.and_one_is_mod] at h
  exact h
theorem nth_bit64 {xs : List Nat} (h : All W xs) (i : Nat) : nth xs (i / 64) / 2 ^ (i % 64) % 2 = val W xs / 2 ^ i % 2 := by
  rw [two_split i, Nat.mul_comm, ← Nat.div_div_eq_div_mul, ← val_drop_div h, val_nth]
  have hW : W = 2 ^ (i % 64) * 2 ^ (64 - i % 64) := W_two (by omega)
  have h2 : 2 ^ (64 - i % 64) = 2 * 2 ^ (63 - i % 64) := by rw [show 64 - i % 64 = 63 - i % 64 + 1 by omega, Nat.pow_succ, Nat.mul_comm]
  rw [hW, Nat.mul_assoc, Nat.add_mul_div_left _ _ (two_pos _), h2, Nat.mul_assoc, Nat.add_mul_mod_self_left]
set_option maxHeartbeats 400000 in
theorem lbit_any {A : Option Addr} {n c s : Nat} {s' : Int} {xs : List Nat} {w : World} (h : Rd .u64 w A n c xs) (hx : All W xs) (es : s' = (s : Int)) (hs : s ≤ 9223372036854775807) (hn : n ≤ 1099511627776) :
    Calls Tryd.prog 16 #[.slice A n c, .int .i64 s'] w (fun e w' => e = .returned (.tuple #[.int .u64 ((val W xs / 2 ^ s % 2 : Nat) : Int), .int .i64 0]) ∧ w = w') := by
  subst es
  have C := Lib.hid (at_any A n c (s / 64) xs w h rfl hn)
  have hb := bit_word (r := s % 64) (hx.nth W_pos (s / 64))
  rw [nth_bit64 hx s] at hb
  have hd := divP (nth xs (s / 64)) (s % 64)
  have d1 : decide ((s : Int) < 0) = false := by simp
  have q1 := lay (show (s : Int) / 64 = ((s / 64 : Nat) : Int) by omega)
  have q2 := lay (show (s : Int) % 64 = ((s % 64 : Nat) : Int) by omega)
  have hrl : s % 64 < 64 := by omega
  have hwB : s / 64 ≤ 144115188075855871 := by omega
  generalize val W xs / 2 ^ s % 2 = bt at *
  generalize s / 64 = ws at *
  generalize s % 64 = r at *
  generalize nth xs ws = x at *
  generalize x / 2 ^ r = y at *
  have b1 := lay hb
  have b2 := lay hd
  have u1 := lay (show IntKind.u64.wrap (r : Int) = (r : Int) by rw [IntKind.wrap_u64]; omega)
  clear h hx hb hd
  go_enter Tryd.func16, Tryd.ntmps16
  go_wp2_with fail
  refine C.out.mono ?_
  rintro e w' ⟨rfl, rfl⟩
  go_wp2
  go_ret2
  exact ⟨rfl, rfl⟩

set_option maxHeartbeats 400000 in
theorem rbit1_neg {v : Value} {z : Int} {w : World} (hz : z < 0) : Calls Tryd.prog 17 #[v, .int .i64 z] w (Keeps (.tuple #[.int .u64 0, .int .i64 3]) w) := by
  have d1 : decide (z < 0) = true := by simpa using hz
  go_enter Tryd.func17, Tryd.ntmps17
  go_wp2
  go_ret2
  exact ⟨rfl, Below.refl _ _⟩
set_option maxHeartbeats 1000000 in
theorem rbit1_any {A : Option Addr} {n c s : Nat} {s' : Int} {xs : List Nat} {w : World} (h : Rd .u64 w A n c xs) (hx : All W xs) (es : s' = (s : Int)) (hs : s ≤ 9223372036854775807) (hn : n ≤ 4294967296) :
    Calls Tryd.prog 17 #[.slice A n c, .int .i64 s'] w (Keeps (.tuple #[.int .u64 ((val W xs / 2 ^ s % 2 : Nat) : Int), .int .i64 0]) w) := by
  subst es
  have d1 : decide ((s : Int) < 0) = false := by simp
  have q1 := lay (show (s : Int) / 64 = ((s / 64 : Nat) : Int) by omega)
  have q2 := lay (show (s : Int) % 64 = ((s % 64 : Nat) : Int) by omega)
  have hrl : s % 64 < 64 := by omega
  have hwB : s / 64 ≤ 144115188075855871 := by omega
  have hnb := nth_bit64 hx s
  by_cases hlt : s / 64 < n
  · obtain ⟨b, off, ea, hb, hca⟩ := h.at hlt
    subst ea
    have hcap := h.cap
    have R0 := (h.upto (j := s / 64 + 1) (by omega)).from_ (j := s / 64) (by omega)
    have hxx : (xs.take (s / 64 + 1)).drop (s / 64) = [nth xs (s / 64)] := by
      rw [List.take_succ_eq_append_getElem (by rw [h.len]; exact hlt), List.drop_append_of_le_length (by simp; rw [h.len]; omega), List.drop_of_length_le (by simp; omega), nth_lt (by rw [h.len]; exact hlt)]
      rfl
    rw [hxx] at R0
    have hB := hx.nth W_pos (s / 64)
    generalize val W xs / 2 ^ s % 2 = bt at *
    generalize s / 64 = ws at *
    generalize s % 64 = r at *
    generalize nth xs ws = x at *
    rw [if_neg (by omega)] at R0
    have R1 : Hid (Rd .u64 w (some ⟨b, off + ws, none⟩) 1 (c - ws) [x]) := by
      show Rd _ _ _ _ _ _
      have e := addo b off ws
      rw [← e]
      have e1 : ws + 1 - ws = 1 := by omega
      rw [e1] at R0
      exact R0
    have C := Lib.hid (digits1_num R1.out (All.cons hB All.nil) (by omega))
    have HV : Hid (val W [x] = x) := by show _ = _; simp [val]
    have HB := Lib.hid hnb
    have hbt : bt < 2 := by omega
    clear h hx hnb R0 hca hB
    have s1 := lay (show (ws : Int) + 1 - (ws : Int) = 1 by omega)
    have u1 := lay (show IntKind.u64.wrap (bt : Int) = (bt : Int) by rw [IntKind.wrap_u64]; omega)
    go_enter Tryd.func17, Tryd.ntmps17
    go_wp2_with fail
    refine C.out.mono ?_
    rintro e w1 ⟨A1, n1, c1, xs1, rfl, o1, a1, v1, hb1, l1⟩
    rw [HV.out] at v1
    have D1 := Lib.hid (o1.dig a1 v1 l1)
    have C2 := Lib.hid (bit1_any (w := w1) (i := r) D1.out rfl (by omega) (by omega))
    rw [HB.out] at C2
    have HB1 := Lib.hid hb1
    clear o1 a1 v1 hb1 D1
    go_wp2_with fail
    refine C2.out.mono ?_
    rintro e w' ⟨rfl, rfl⟩
    go_wp2
    go_ret2
    exact ⟨rfl, HB1.out⟩
  · have h0 : val W xs / 2 ^ s % 2 = 0 := by
      rw [← hnb, nth_ge (by rw [h.len]; omega)]; simp
    rw [h0]
    generalize s / 64 = ws at *
    clear h hx hnb h0
    go_enter Tryd.func17, Tryd.ntmps17
    go_wp2
    go_ret2
    exact ⟨rfl, Below.refl _ _⟩
end Go.Proofs.YtgiecdokjmcogaaDoor
