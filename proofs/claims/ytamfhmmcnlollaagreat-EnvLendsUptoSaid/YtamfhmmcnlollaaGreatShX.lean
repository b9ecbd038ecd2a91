/-
  Shifts: the numbers of limb.Shl, limb.Shr. limb.Shl. limb.Shr.
-/
import Derived.Test.YtamfhmmcnlollaaGreatSumX
import Derived.Test.YtamfhmmcnlollaaGreatFlt
namespace Go.Proofs.YtamfhmmcnlollaaGreat
open Go.RowKit
set_option linter.unusedVariables false

theorem W_two {r : Nat} (hr : r ≤ 64) : W = 2 ^ r * 2 ^ (64 - r) := by
  rw [← Nat.pow_add, show r + (64 - r) = 64 by omega]
  rfl
theorem W_pow2 (n : Nat) : W ^ n = 2 ^ (64 * n) := by
  rw [show W = 2 ^ 64 from rfl, ← Nat.pow_mul]
theorem two_pos (n : Nat) : 0 < 2 ^ n := Nat.pow_pos (by omega)
/-- the word that a shift to the left gives, and what goes over -/
theorem shl_word {x r low : Nat} (hx : x < W) (hr0 : 0 < r) (hr : r < 64) (hl : low < 2 ^ r) :
    bits .or .u64 (IntKind.u64.wrap ((x : Int) * 2 ^ r)) (low : Int) = ((lo (x * 2 ^ r) + low : Nat) : Int) ∧ (x : Int) / 2 ^ (64 - r) = ((hi (x * 2 ^ r) : Nat) : Int) ∧ lo (x * 2 ^ r) + low < W ∧ hi (x * 2 ^ r) < 2 ^ r := by
  have hW := W_two (r := r) (by omega)
  have h2 := two_pos (64 - r)
  have e1 : lo (x * 2 ^ r) = 2 ^ r * (x % 2 ^ (64 - r)) := by
    rw [lo, hW, Nat.mul_comm x, Nat.mul_mod_mul_left]
  have e2 : hi (x * 2 ^ r) = x / 2 ^ (64 - r) := by
    rw [hi, hW, Nat.mul_comm x, Nat.mul_div_mul_left _ _ (two_pos r)]
  have e3 : x % 2 ^ (64 - r) < 2 ^ (64 - r) := Nat.mod_lt _ h2
  have e4 : lo (x * 2 ^ r) + low < W := by
    rw [e1, hW]
    have : 2 ^ r * (x % 2 ^ (64 - r) + 1) ≤ 2 ^ r * 2 ^ (64 - r) := Nat.mul_le_mul_left _ e3
    rw [Nat.mul_succ] at this
    omega
  have e5 : hi (x * 2 ^ r) < 2 ^ r := by
    rw [e2]
    refine Nat.div_lt_of_lt_mul ?_
    rw [Nat.mul_comm, ← hW]
    exact hx
  refine ⟨?_, ?_, e4, e5⟩
  · have c1 : ((x : Int) * 2 ^ r) = ((x * 2 ^ r : Nat) : Int) := by rw [Int.natCast_mul, Int.natCast_pow]; rfl
    rw [c1, wrapM]
    have h := bits_or_u64_nat (lo (x * 2 ^ r)) low (lo_lt _) (by rw [W_eq] at e4; omega)
    rw [h]
    congr 1
    rw [e1, ← Nat.two_pow_add_eq_or_of_lt hl]
  · rw [e2]
    rw [Int.natCast_ediv, Int.natCast_pow]
    rfl

/-- k words are shifted -/
def ShlI (xs : List Nat) (ws r k low : Nat) (outs : List Nat) : Prop :=
  All W outs ∧ outs.length = ws + k ∧ low < 2 ^ r ∧ val W outs + W ^ (ws + k) * low = val W (xs.take k) * 2 ^ r * W ^ ws
theorem ShlI.zero (xs : List Nat) (ws r : Nat) : ShlI xs ws r 0 0 (List.replicate ws 0) := ⟨All.replicate W_pos, by simp, two_pos r, by simp [val, val_replicate]⟩
theorem ShlI.step {xs outs : List Nat} {ws r k low : Nat} (h : ShlI xs ws r k low outs) (hx : All W xs) (hr0 : 0 < r) (hr : r < 64) : ShlI xs ws r (k + 1) (hi (nth xs k * 2 ^ r)) (outs ++ [lo (nth xs k * 2 ^ r) + low]) := by
  obtain ⟨h1, h2, h3, h4⟩ := h
  obtain ⟨_, _, e3, e4⟩ := shl_word (hx.nth W_pos k) hr0 hr h3
  refine ⟨h1.append (All.cons e3 All.nil), by simp [h2]; omega, e4, ?_⟩
  have e := lo_hi (nth xs k * 2 ^ r)
  rw [val_append, val_take_succ', h2, Nat.add_mul, Nat.add_mul, ← h4]
  generalize lo (nth xs k * 2 ^ r) = l at *
  generalize hi (nth xs k * 2 ^ r) = g at *
  have e2 : W ^ k * nth xs k * 2 ^ r * W ^ ws = W ^ (ws + k) * (l + W * g) := by
    rw [e, Nat.pow_add, Nat.mul_assoc (W ^ k), Nat.mul_comm (W ^ ws) (W ^ k), Nat.mul_assoc (W ^ k), Nat.mul_assoc (W ^ k), Nat.mul_comm (W ^ ws)]
  rw [e2]
  simp only [val, Nat.mul_zero, Nat.add_zero]
  have e5 : W ^ (ws + (k + 1)) * g = W ^ (ws + k) * (W * g) := by rw [← Nat.add_assoc, Nat.pow_succ, Nat.mul_assoc]
  rw [e5, Nat.mul_add, Nat.mul_add]
  omega
/-- how many words a shift gives -/
def shlLen (n s : Nat) : Nat := n + s / 64 + (if 0 < s % 64 then 1 else 0)
theorem two_split (s : Nat) : 2 ^ s = 2 ^ (s % 64) * W ^ (s / 64) := by
  rw [W_pow2, ← Nat.pow_add]
  congr 1
  omega
theorem ShlI.done {xs outs : List Nat} {s n low : Nat} (h : ShlI xs (s / 64) (s % 64) n low outs) (hn : xs.length = n) (hr : 0 < s % 64) (hl : low < W) : outs ++ [low] = wds W (shlLen n s) (val W xs * 2 ^ s) := by
  obtain ⟨h1, h2, h3, h4⟩ := h
  rw [val_take_ge (by omega)] at h4
  have hv : val W (outs ++ [low]) = val W xs * 2 ^ s := by
    rw [val_append, h2, two_split s, ← Nat.mul_assoc, ← h4]
    simp [val]
  have ha := h1.append (All.cons hl All.nil)
  have hlen : (outs ++ [low]).length = shlLen n s := by rw [shlLen, if_pos hr]; simp [h2]; omega
  refine eq_wds ha hlen ?_
  rw [hv, Nat.mod_eq_of_lt]
  have := val_lt ha
  rw [hlen, hv] at this
  exact this
theorem shl_whole {xs : List Nat} {s n : Nat} (hx : All W xs) (hn : xs.length = n) (hr : s % 64 = 0) : List.replicate (s / 64) 0 ++ xs = wds W (shlLen n s) (val W xs * 2 ^ s) := by
  have ha : All W (List.replicate (s / 64) 0 ++ xs) := (All.replicate W_pos).append hx
  have hlen : (List.replicate (s / 64) 0 ++ xs).length = shlLen n s := by rw [shlLen, if_neg (by omega)]; simp [hn]; omega
  have hv : val W (List.replicate (s / 64) 0 ++ xs) = val W xs * 2 ^ s := by
    rw [val_append, val_replicate, two_split s, hr]
    simp
    rw [Nat.mul_comm]
  refine eq_wds ha hlen ?_
  rw [hv, Nat.mod_eq_of_lt]
  have := val_lt ha
  rw [hlen, hv] at this
  exact this

/-- the word that a shift to the right gives -/
def shrw (a b r : Nat) : Nat := a / 2 ^ r + lo (b * 2 ^ (64 - r))
theorem shr_word {a b r : Nat} (ha : a < W) (hr0 : 0 < r) (hr : r < 64) : shrw a b r < W ∧ ∀ c, (a + W * (b + W * c)) / 2 ^ r % W = shrw a b r := by
  have hW := W_two (r := r) (by omega)
  have h2 := two_pos (64 - r)
  have e1 : lo (b * 2 ^ (64 - r)) = 2 ^ (64 - r) * (b % 2 ^ r) := by
    rw [lo, hW, Nat.mul_comm b, Nat.mul_comm (2 ^ r), Nat.mul_mod_mul_left]
  have e2 : a / 2 ^ r < 2 ^ (64 - r) := by
    refine Nat.div_lt_of_lt_mul ?_
    rw [← hW]; exact ha
  have e3 : b % 2 ^ r < 2 ^ r := Nat.mod_lt _ (two_pos r)
  have e4 : shrw a b r < W := by
    unfold shrw
    rw [e1, hW]
    have : 2 ^ (64 - r) * (b % 2 ^ r + 1) ≤ 2 ^ (64 - r) * 2 ^ r := Nat.mul_le_mul_left _ e3
    rw [Nat.mul_succ, Nat.mul_comm _ (2 ^ r)] at this
    omega
  refine ⟨e4, fun c => ?_⟩
  have e5 : a + W * (b + W * c) = a + 2 ^ r * (2 ^ (64 - r) * (b + W * c)) := by rw [← Nat.mul_assoc, ← hW]
  rw [e5, Nat.add_mul_div_left _ _ (two_pos r)]
  have e6 : 2 ^ (64 - r) * (b + W * c) = lo (b * 2 ^ (64 - r)) + W * (hi (b * 2 ^ (64 - r)) + 2 ^ (64 - r) * c) := by
    have := lo_hi (b * 2 ^ (64 - r))
    rw [Nat.mul_add, Nat.mul_add, ← Nat.add_assoc, this, Nat.mul_comm b, ← Nat.mul_assoc, ← Nat.mul_assoc, Nat.mul_comm W]
  rw [e6, ← Nat.add_assoc, Nat.add_mul_mod_self_left]
  exact Nat.mod_eq_of_lt e4
theorem val_nth (ys : List Nat) (j : Nat) : val W (ys.drop j) = nth ys j + W * val W (ys.drop (j + 1)) := by
  by_cases h : j < ys.length
  · rw [List.drop_eq_getElem_cons h, val, nth_lt h]
  · rw [List.drop_of_length_le (by omega), List.drop_of_length_le (by omega), nth_ge (by omega)]; simp [val]
theorem val_drop_div {ys : List Nat} (h : All W ys) (j : Nat) : val W (ys.drop j) = val W ys / W ^ j := by
  have a := val_append (b := W) (ys.take j) (ys.drop j)
  have b := val_take_lt h W_pos j
  rw [List.take_append_drop] at a
  by_cases hj : j ≤ ys.length
  · rw [List.length_take, Nat.min_eq_left hj] at a
    rw [a, Nat.add_mul_div_left _ _ (Nat.pow_pos W_pos), Nat.div_eq_of_lt b, Nat.zero_add]
  · rw [List.drop_of_length_le (by omega)]
    have := val_lt h
    have h2 : W ^ ys.length ≤ W ^ j := Nat.pow_le_pow_right W_pos (by omega)
    rw [Nat.div_eq_of_lt (by omega)]
    rfl
theorem shr_nth {ys : List Nat} (h : All W ys) (r j : Nat) (hr : r < 64) : val W ys / 2 ^ r / W ^ j % W = if r = 0 then nth ys j else shrw (nth ys j) (nth ys (j + 1)) r := by
  have e : val W ys / 2 ^ r / W ^ j = val W (ys.drop j) / 2 ^ r := by rw [val_drop_div h, Nat.div_div_eq_div_mul, Nat.div_div_eq_div_mul, Nat.mul_comm]
  rw [e]
  by_cases h0 : r = 0
  · rw [if_pos h0, h0, Nat.pow_zero, Nat.div_one, val_nth, Nat.add_mul_mod_self_left, Nat.mod_eq_of_lt (h.nth W_pos j)]
  · rw [if_neg h0, val_nth, val_nth]
    exact (shr_word (h.nth W_pos j) (by omega) hr).2 _
/-- k words are shifted to the right -/
def ShrI (xs : List Nat) (ws r m k : Nat) (outs : List Nat) : Prop :=
  All W outs ∧ outs.length = m ∧ ∀ j, j < k → nth outs j = if r = 0 then nth xs (ws + j) else shrw (nth xs (ws + j)) (nth xs (ws + j + 1)) r
theorem ShrI.step {xs outs : List Nat} {ws r m k x : Nat} (h : ShrI xs ws r m k outs) (hx : x < W) (hk : k < m) (e : x = if r = 0 then nth xs (ws + k) else shrw (nth xs (ws + k)) (nth xs (ws + k + 1)) r) : ShrI xs ws r m (k + 1) (outs.set k x) := by
  obtain ⟨h1, h2, h3⟩ := h
  refine ⟨h1.set hx k, by simpa using h2, fun j hj => ?_⟩
  by_cases hjk : j = k
  · subst hjk; rw [nth_set_eq (by omega), e]
  · rw [nth_set_ne (by omega)]; exact h3 j (by omega)
theorem ShrI.done {xs outs : List Nat} {s n : Nat} (h : ShrI xs (s / 64) (s % 64) (n - s / 64) (n - s / 64) outs) (hx : All W xs) (hn : xs.length = n) : outs = wds W (n - s / 64) (val W xs / 2 ^ s) := by
  obtain ⟨h1, h2, h3⟩ := h
  refine eq_of_nth (by rw [h2, wds_length]) fun i hi => ?_
  rw [h2] at hi
  rw [h3 i hi, nth_wds hi]
  have e : val W xs / 2 ^ s = val W (xs.drop (s / 64)) / 2 ^ (s % 64) := by
    rw [two_split s, val_drop_div hx, Nat.div_div_eq_div_mul, Nat.mul_comm]
  rw [e, shr_nth (hx.drop _) _ _ (by omega)]
  have d : ∀ j, nth (xs.drop (s / 64)) j = nth xs (s / 64 + j) := fun j => by simp [nth]
  rw [d, d]
  rfl
theorem strip_nil_iff {xs : List Nat} (h : All W xs) : (strip xs).length = 0 ↔ val W xs = 0 := by
  rw [strip_eq_dg W_gt h]
  constructor
  · intro h0
    exact (dg_nil_iff W_gt).1 (List.eq_nil_of_length_eq_zero h0)
  · intro h0; rw [h0, dg_zero W_gt]; rfl
/-- what goes away -/
theorem lost_eq {xs : List Nat} (h : All W xs) (s : Nat) : val W xs % 2 ^ s = val W (xs.take (s / 64)) + W ^ (s / 64) * (nth xs (s / 64) % 2 ^ (s % 64)) := by
  have b := val_take_lt h W_pos (s / 64)
  have e : val W xs = val W (xs.take (s / 64)) + W ^ (s / 64) * val W (xs.drop (s / 64)) := by
    have a := val_append (b := W) (xs.take (s / 64)) (xs.drop (s / 64))
    rw [List.take_append_drop] at a
    by_cases hj : s / 64 ≤ xs.length
    · rw [List.length_take, Nat.min_eq_left hj] at a
      exact a
    · rw [List.take_of_length_le (by omega), List.drop_of_length_le (by omega)]; simp [val]
  have e2 : val W (xs.drop (s / 64)) % 2 ^ (s % 64) = nth xs (s / 64) % 2 ^ (s % 64) := by
    rw [val_nth]
    have : W = 2 ^ (s % 64) * 2 ^ (64 - s % 64) := W_two (by omega)
    rw [this, Nat.mul_assoc, Nat.add_mul_mod_self_left]
  rw [two_split s, Nat.mul_comm, Nat.mod_mul, ← e2]
  have e3 : val W xs % W ^ (s / 64) = val W (xs.take (s / 64)) := by rw [e, Nat.add_mul_mod_self_left, Nat.mod_eq_of_lt b]
  have e4 : val W xs / W ^ (s / 64) = val W (xs.drop (s / 64)) := by rw [val_drop_div h]
  rw [e3, e4]
theorem shl_gone {x r : Nat} (hr : r ≤ 64) : lo (x * 2 ^ (64 - r)) = 0 ↔ x % 2 ^ r = 0 := by
  have hW := W_two hr
  have e1 : lo (x * 2 ^ (64 - r)) = 2 ^ (64 - r) * (x % 2 ^ r) := by
    rw [lo, hW, Nat.mul_comm x, Nat.mul_comm (2 ^ r), Nat.mul_mod_mul_left]
  rw [e1, Nat.mul_eq_zero]
  have := two_pos (64 - r)
  omega
end Go.Proofs.YtamfhmmcnlollaaGreat
namespace Go.Proofs.YtamfhmmcnlollaaGreat
open Go.RowKit
set_option linter.unusedVariables false

theorem Own.room {k : IntKind} {t : TypeId} {B : Nat} (w : World) (n m : Nat) (h : n ≤ m) (hm : m ≤ 1099511627776) (hB : B ≤ w.heap.size) :
    Own k t B (w.alloc (.cells (madeCells (Value.int k 0).cells (m * 1)) t)) (some ⟨w.heap.size, 0, none⟩) n m (List.replicate n 0) := by
  have e : (madeCells (Value.int k 0).cells (m * 1)).toList = List.replicate m (Value.int k 0) := by
    rw [Nat.mul_one]
    exact toList_madeCells_one (Value.int k 0) m
  refine ⟨by simp, .inr ⟨w.heap.size, m, _, rfl, hB, heap_alloc_new w _, h, by simp only [maxLen]; omega, ?_, ?_⟩⟩
  · rw [← Array.length_toList, e]; simp
  · rw [e, Nat.mul_one, List.take_replicate, Nat.min_eq_left h]; simp
theorem wpList_mk2 {P : Program} {w : World} {k : IntKind} {t T : TypeId} {ops : Array Oper} {rest : List Oper} {o : Oper} {a : Act} {Q : Exit → Act → World → Prop} (hg : o.guard = none) (l c : Operand) (hop : o.op = Op.makeSlice T l c) (he : Elem P T t k)
    (B : Nat) (n m : Nat) {kl kc : IntKind} {L C : Int} (hl : a.eval l = .int kl L) (hc : a.eval c = .int kc C) (hL : L = (n : Int)) (hC : C = (m : Int)) (hnm : n ≤ m) (hn : m ≤ 1099511627776) (hB : B ≤ w.heap.size)
    (hK : ∀ w', Own k t B w' (some ⟨w.heap.size, 0, none⟩) n m (List.replicate n 0) → Below w.heap.size w w' → wpList P ops Q rest (a.put o.dst (.slice (some ⟨w.heap.size, 0, none⟩) n m)) w') :
    wpList P ops Q (o :: rest) a w := by
  obtain ⟨hT, hinfo⟩ := id he
  obtain ⟨i, hi, hz, hs, hb⟩ := info_parts hinfo
  refine wpList_plain hg fun K hK' => ?_
  subst hL hC
  have hr := run_make (P := P) w T t i (.int k 0) hT hi hz kl kc (n : Int) (m : Int) (by omega) (by omega) (by rw [hb]; omega) (by omega)
  simp only [Int.toNat_natCast] at hr
  unfold Oper.wp
  simp [execOp, hop, hl, hc, hr, Result.andThen]
  refine hK' _ _ (hK _ ?_ ((Below.refl _ _).alloc (Nat.le_refl _) _))
  rw [hs]
  exact Own.room w n m hnm hn hB

set_option maxHeartbeats 1000000 in
theorem lshl_any {A : Option Addr} {n c s : Nat} {s' : Int} {xs : List Nat} {w : World} (h : Rd .u64 w A n c xs) (hx : All W xs) (es : s' = (s : Int)) (hs : s ≤ 1048576) (hn : n ≤ 17179869184) :
    Calls Tryz.prog 186 #[.slice A n c, .int .i64 s'] w (Gives2 .u64 41 w (wds W (shlLen n s) (val W xs * 2 ^ s)) (.int .i64 0)) := by
  subst es
  have H := Lib.hid h
  have HX := Lib.hid hx
  have HE := Lib.hid elW
  have d1 : decide ((s : Int) < 0) = false := by simp
  have d2 : decide (1048576 < (s : Int)) = false := by simp; omega
  have HW : Hid (∀ outs low, ShlI xs (s / 64) (s % 64) n low outs → 0 < s % 64 → low < W → outs ++ [low] = wds W (shlLen n s) (val W xs * 2 ^ s)) := fun outs low hh h0 h1 => hh.done h.len h0 h1
  have HZ : Hid (s % 64 = 0 → List.replicate (s / 64) 0 ++ xs = wds W (shlLen n s) (val W xs * 2 ^ s)) := fun h0 => shl_whole hx h.len h0
  have HL : Hid ((wds W (shlLen n s) (val W xs * 2 ^ s)).length = n + s / 64 + (if 0 < s % 64 then 1 else 0)) := by show _ = _; rw [wds_length]; rfl
  have hrl : s % 64 < 64 := by omega
  have q1 := lay (show (s : Int) / 64 = ((s / 64 : Nat) : Int) by omega)
  have q2 := lay (show (s : Int) % 64 = ((s % 64 : Nat) : Int) by omega)
  have hws : s / 64 ≤ 16384 := by omega
  generalize wds W (shlLen n s) (val W xs * 2 ^ s) = zs at *
  generalize s / 64 = ws at *
  generalize s % 64 = r at *
  clear h hx hs
  by_cases hr0 : r = 0
  · subst hr0
    have HZ2 := Lib.hid (HZ.out rfl)
    clear HZ
    go_enter Tryz.func186, Tryz.ntmps186
    go_wp2_with (first
      | (at_make; refine wpList_mk2 rfl (.tmp 23) (.tmp 28) rfl HE.out w.heap.size ws (ws + n + 1) rfl rfl rfl (by omega) (by omega) (by omega) (Nat.le_refl _) ?_; intro w1 ho1 hb1)
      | (at_builtin; (refine wpList_app rfl (.tmp 32) (.tmp 33) rfl HE.out (t := 41) (k := .u64) (B := w.heap.size) rfl rfl ho1 (H.out.below hb1) (by omega) hb1.size ?_); intro A4 c4 w4 ho4 hb4 _ _))
    go_ret2
    refine ⟨_, _, _, rfl, ?_, hb1.trans hb4⟩
    rw [HZ2.out] at ho4
    exact ho4
  · have e0 : ((r : Int) == 0) = false := by rw [beq_eq_false_iff_ne]; omega
    have hr0' : 0 < r := by omega
    have u1 := lay (show IntKind.u64.wrap (r : Int) = (r : Int) by rw [IntKind.wrap_u64]; omega)
    have u2 := lay (show IntKind.u64.wrap (64 - (r : Int)) = ((64 - r : Nat) : Int) by rw [IntKind.wrap_u64]; omega)
    go_enter Tryz.func186, Tryz.ntmps186
    go_wp2_with (at_make; refine wpList_mk2 rfl (.tmp 23) (.tmp 28) rfl HE.out w.heap.size ws (ws + n + 1) rfl rfl rfl (by omega) (by omega) (by omega) (Nat.le_refl _) ?_; intro w1 ho1 hb1)
    have HO : Hid (Own .u64 41 w.heap.size w1 (some ⟨w.heap.size, 0, none⟩) ws (ws + n + 1) (List.replicate ws 0) ∧ Below w.heap.size w w1) := ⟨ho1, hb1⟩
    clear ho1 hb1 HZ
    go_loopw [8, 9, 37] (fun ov cv i wr => ∃ (k low c' : Nat) (A' : Option Addr) (outs : List Nat), Hid (ShlI xs ws r k low outs ∧ Own .u64 41 w.heap.size wr A' (ws + k) c' outs ∧ Below w.heap.size w wr) ∧ k ≤ n ∧ ov = .slice A' (ws + k) c' ∧ cv = .int .u64 low ∧ i = .int .i64 k) (fun _ _ i _ => n - (intOf i).toNat)
    case atStart => exact ⟨0, 0, _, _, _, ⟨ShlI.zero xs ws r, HO.out.1, HO.out.2⟩, by omega, rfl, rfl, rfl⟩
    case round =>
      obtain ⟨k, low, c', A', outs, hI, hk, rfl, rfl, rfl⟩ := hrel
      by_cases hlt : k < n
      · obtain ⟨b, off, e, hb, hca⟩ := (H.out.below hI.out.2.2).at hlt
        subst e
        have HS := Lib.hid (hI.out.1.step HX.out hr0' hrl)
        obtain ⟨w1', w2', w3', w4'⟩ := shl_word (HX.out.nth W_pos k) hr0' hrl hI.out.1.2.2.1
        have v1 := lay w1'
        have v2 := lay w2'
        clear w1' w2' w3' w4'
        generalize nth xs k = x at *
        generalize lo (x * 2 ^ r) + low = y at *
        generalize hi (x * 2 ^ r) = low' at *
        go_wp2_with (at_builtin; (refine wpList_app rfl (.tmp 41) (.tmp 47) rfl HE.out (t := 41) (k := .u64) (B := w.heap.size) (ys := [y]) rfl rfl (hI.out.2.1.alloc _) (Rd.lit1 wr _) (by omega) (by have := hI.out.2.2.size; simp; omega) ?_); intro A4 c4 w4 ho4 hb4 _ _)
        go_roundw
        case rel => exact ⟨k + 1, low', _, _, _, ⟨HS.out, ho4, (hI.out.2.2.alloc hI.out.2.2.size _).trans hb4⟩, by omega, rfl, rfl, by go_num⟩
        case measure => simp [intOf]; omega
      · obtain rfl : k = n := by omega
        go_wp2_with (at_builtin; (refine wpList_app rfl (.tmp 54) (.tmp 56) rfl HE.out (t := 41) (k := .u64) (B := w.heap.size) (ys := [low]) rfl rfl (hI.out.2.1.alloc _) (Rd.lit1 wr _) (by omega) (by have := hI.out.2.2.size; simp; omega) ?_); intro A4 c4 w4 ho4 hb4 _ _)
        go_ret2
        refine ⟨_, _, _, rfl, ?_, (hI.out.2.2.alloc hI.out.2.2.size _).trans hb4⟩
        rw [HW.out _ _ hI.out.1 hr0' (Nat.lt_trans hI.out.1.2.2.1 (by have : 2 ^ r < 2 ^ 64 := Nat.pow_lt_pow_right (by omega) hrl; exact this))] at ho4
        exact ho4
end Go.Proofs.YtamfhmmcnlollaaGreat
namespace Go.Proofs.YtamfhmmcnlollaaGreat
open Go.RowKit
set_option linter.unusedVariables false

theorem shr_or {a b r : Nat} (ha : a < W) (hr0 : 0 < r) (hr : r < 64) :
    bits .or .u64 ((a / 2 ^ r : Nat) : Int) (IntKind.u64.wrap ((b : Int) * 2 ^ (64 - r))) = ((shrw a b r : Nat) : Int) := by
  have hW := W_two (r := r) (by omega)
  have c1 : ((b : Int) * 2 ^ (64 - r)) = ((b * 2 ^ (64 - r) : Nat) : Int) := by rw [Int.natCast_mul, Int.natCast_pow]; rfl
  have e2 : a / 2 ^ r < 2 ^ (64 - r) := by
    refine Nat.div_lt_of_lt_mul ?_
    rw [← hW]; exact ha
  have e1 : lo (b * 2 ^ (64 - r)) = 2 ^ (64 - r) * (b % 2 ^ r) := by
    rw [lo, hW, Nat.mul_comm b, Nat.mul_comm (2 ^ r), Nat.mul_mod_mul_left]
  have e3 : a / 2 ^ r < 18446744073709551616 := Nat.lt_of_le_of_lt (Nat.div_le_self _ _) ha
  rw [c1, wrapM, bits_or_u64_nat _ _ e3 (lo_lt _)]
  congr 1
  unfold shrw
  rw [e1, Nat.or_comm, ← Nat.two_pow_add_eq_or_of_lt e2, Nat.add_comm]
theorem divP (a r : Nat) : (a : Int) / 2 ^ r = ((a / 2 ^ r : Nat) : Int) := by rw [Int.natCast_ediv, Int.natCast_pow]; rfl
theorem mulP (a r : Nat) : ((a : Int) * 2 ^ r) = ((a * 2 ^ r : Nat) : Int) := by rw [Int.natCast_mul, Int.natCast_pow]; rfl

set_option maxHeartbeats 1000000 in
theorem lshr_out {A : Option Addr} {n c s : Nat} {s' : Int} {xs : List Nat} {w : World} (h : Rd .u64 w A n c xs) (hx : All W xs) (es : s' = (s : Int)) (hs : s ≤ 9223372036854775807) (hn : n ≤ 17179869184) (hge : n ≤ s / 64) :
    Calls Tryz.prog 189 #[.slice A n c, .int .i64 s'] w (Gives3 .u64 41 w (wds W (n - s / 64) (val W xs / 2 ^ s)) (.bool (decide (val W xs % 2 ^ s ≠ 0))) (.int .i64 0)) := by
  subst es
  have d1 : decide ((s : Int) < 0) = false := by simp
  have c1 := Lib.hid (top_any A n c xs w h (by omega))
  have e0 : n - s / 64 = 0 := by omega
  rw [e0]
  have hlt : val W xs < 2 ^ s := by
    have a := val_lt hx
    rw [h.len, W_pow2] at a
    exact Nat.lt_of_lt_of_le a (Nat.pow_le_pow_right (by omega) (by omega))
  have HB : Hid (decide (val W xs % 2 ^ s ≠ 0) = decide (0 < (strip xs).length)) := by
    show _ = _
    rw [Nat.mod_eq_of_lt hlt]
    have := strip_nil_iff hx
    rw [decide_eq_decide]
    omega
  have q1 := lay (show (s : Int) / 64 = ((s / 64 : Nat) : Int) by omega)
  have q2 := lay (show (s : Int) % 64 = ((s % 64 : Nat) : Int) by omega)
  have hrl : s % 64 < 64 := by omega
  have hws : s / 64 ≤ 144115188075855871 := by omega
  generalize decide (val W xs % 2 ^ s ≠ 0) = bo at *
  generalize s / 64 = ws at *
  generalize s % 64 = r at *
  generalize (strip xs).length = t at *
  have u1 := lay (show IntKind.u64.wrap (r : Int) = (r : Int) by rw [IntKind.wrap_u64]; omega)
  clear h hx hlt e0
  by_cases ht : 0 < t
  · have d2 : decide (0 < t) = true := by simpa using ht
    have HB2 : Hid (bo = true) := HB.out.trans d2
    clear HB
    go_enter Tryz.func189, Tryz.ntmps189
    go_wp2_with (go_at_call 165; refine c1.out.mono ?_; rintro e w' ⟨rfl, rfl⟩)
    go_ret3
    rw [HB2.out]
    exact ⟨_, _, _, rfl, Own.nil, Below.refl _ _⟩
  · have d2 : decide (0 < t) = false := by simpa using ht
    have HB2 : Hid (bo = false) := HB.out.trans d2
    clear HB
    obtain rfl : t = 0 := by omega
    go_enter Tryz.func189, Tryz.ntmps189
    go_wp2_with (go_at_call 165; refine c1.out.mono ?_; rintro e w' ⟨rfl, rfl⟩)
    go_ret3
    rw [HB2.out]
    exact ⟨_, _, _, rfl, Own.nil, Below.refl _ _⟩

set_option maxHeartbeats 4000000 in
set_option maxRecDepth 100000 in
theorem lshr_in {A : Option Addr} {n c s : Nat} {s' : Int} {xs : List Nat} {w : World} (h : Rd .u64 w A n c xs) (hx : All W xs) (es : s' = (s : Int)) (hn : n ≤ 17179869184) (hge : s / 64 < n) :
    Calls Tryz.prog 189 #[.slice A n c, .int .i64 s'] w (Gives3 .u64 41 w (wds W (n - s / 64) (val W xs / 2 ^ s)) (.bool (decide (val W xs % 2 ^ s ≠ 0))) (.int .i64 0)) := by
  subst es
  have d1 : decide ((s : Int) < 0) = false := by simp
  have H := Lib.hid h
  have HX := Lib.hid hx
  have HE := Lib.hid elW
  have HD : Hid (∀ outs, ShrI xs (s / 64) (s % 64) (n - s / 64) (n - s / 64) outs → outs = wds W (n - s / 64) (val W xs / 2 ^ s)) := fun outs hh => hh.done hx h.len
  have c1 := Lib.hid (top_any A (s / 64) c (xs.take (s / 64)) w (h.upto (by omega)) (by omega))
  have hl := lost_eq hx s
  have hs0 := strip_nil_iff (hx.take (s / 64))
  have q1 := lay (show (s : Int) / 64 = ((s / 64 : Nat) : Int) by omega)
  have q2 := lay (show (s : Int) % 64 = ((s % 64 : Nat) : Int) by omega)
  have hrl : s % 64 < 64 := by omega
  obtain ⟨bo, hbo⟩ : ∃ bo, bo = decide (val W xs % 2 ^ s ≠ 0) := ⟨_, rfl⟩
  have hcap := h.cap
  rw [← hbo]
  generalize wds W (n - s / 64) (val W xs / 2 ^ s) = zs at *
  generalize val W xs % 2 ^ s = L at *
  generalize s / 64 = ws at *
  generalize s % 64 = r at *
  have u1 := lay (show IntKind.u64.wrap (r : Int) = (r : Int) by rw [IntKind.wrap_u64]; omega)
  have u2 := lay (show IntKind.u64.wrap (64 - (r : Int)) = ((64 - r : Nat) : Int) by rw [IntKind.wrap_u64]; omega)
  obtain ⟨m, hm⟩ : ∃ m, n = ws + m := ⟨n - ws, by omega⟩
  have hm' : n - ws = m := by omega
  rw [hm'] at HD
  have em := lay (show (n : Int) - (ws : Int) = (m : Int) by omega)
  have HM := Lib.hid hm
  have hmn : m ≤ n := by omega
  clear hm
  obtain ⟨b, off, ea, hb, hca⟩ := h.at (i := ws) (by omega)
  subst ea
  have BX := hx.nth W_pos ws
  have v1 := lay (show IntKind.u64.wrap ((nth xs ws : Int) * 2 ^ (64 - r)) = ((lo (nth xs ws * 2 ^ (64 - r)) : Nat) : Int) by rw [mulP, wrapM])
  have hg := shl_gone (x := nth xs ws) (r := r) (by omega)
  generalize hy : lo (nth xs ws * 2 ^ (64 - r)) = y at *
  clear h hx hy hm'
  by_cases ht : 0 < (strip (xs.take ws)).length
  · have HB2 : Hid (bo = true) := by
      show _ = _
      rw [hbo, decide_eq_true_eq]
      omega
    clear hl hs0 hg hbo
    generalize (strip (xs.take ws)).length = t at *
    have d2 : decide (0 < t) = true := by simpa using ht
    go_enter Tryz.func189, Tryz.ntmps189
    go_wp2_with fail
    refine c1.out.mono ?_
    rintro e w' ⟨rfl, rfl⟩
    have hm40 : m ≤ 1099511627776 := by omega
    clear c1 BX v1 hca
    go_wp2_with (at_make; refine wpList_mk rfl (.tmp 48) (.tmp 48) rfl HE.out w.heap.size m rfl rfl rfl rfl hm40 (Nat.le_refl _) ?_; intro w1 ho1 hg1 hb1; clear hcap hmn hge em q1 q2)
    have HO : Hid (Own .u64 41 w.heap.size w1 (some ⟨w.heap.size, 0, none⟩) m m (List.replicate m 0) ∧ Below w.heap.size w w1) := ⟨ho1, hb1⟩
    clear ho1 hb1 hg1
    go_loopw [52] (fun i wr => ∃ (k : Nat) (outs : List Nat), Hid (ShrI xs ws r m k outs ∧ Own .u64 41 w.heap.size wr (some ⟨w.heap.size, 0, none⟩) m m outs ∧ Below w.heap.size w wr) ∧ k ≤ m ∧ i = .int .i64 k) (fun i _ => m - (intOf i).toNat)
    case atStart => exact ⟨0, _, ⟨⟨All.replicate W_pos, by simp, fun j hj => by omega⟩, HO.out.1, HO.out.2⟩, by omega, rfl⟩
    case round =>
      obtain ⟨k, outs, hI, hk, rfl⟩ := hrel
      by_cases hlt : k < m
      · obtain ⟨b2, off2, e, hb2, hca⟩ := (H.out.below hI.out.2.2).at (i := ws + k) (by have := HM.out; omega)
        injection e with e
        injection e with e1 e2
        subst e1 e2
        have hwk : ws + k < n := by have := HM.out; omega
        have hcell := hI.out.2.1.cell hlt
        have hfr := hI.out.2.1.frozen (i := k)
        have hsz := Lib.hid (ownlt hI.out.2.1)
        have BX := Lib.hid (HX.out.nth W_pos (ws + k))
        by_cases hr0 : r = 0
        · subst hr0
          go_wp2
          go_roundw
          case rel =>
            refine ⟨k + 1, _, ⟨hI.out.1.step (x := nth xs (ws + k)) BX.out hlt (by rw [if_pos rfl]), hI.out.2.1.stored, hI.out.2.2.setCell (Nat.le_refl _) _⟩, by omega, by go_num⟩
          case measure => simp [intOf]; omega
        · have hr0' : 0 < r := by omega
          have g1 : decide (0 < (r : Int)) = true := by simpa using hr0'
          have HS := Lib.hid (hI.out.1.step (x := shrw (nth xs (ws + k)) (nth xs (ws + k + 1)) r) (shr_word BX.out hr0' hrl).1 hlt (by rw [if_neg hr0]))
          have q5 := lay (divP (nth xs (ws + k)) r)
          have q6 := lay (shr_or (b := nth xs (ws + k + 1)) BX.out hr0' hrl)
          have HO1 := Lib.hid (hI.out.2.1.stored (i := k) (x := nth xs (ws + k) / 2 ^ r))
          have HB1 : Hid (Below w.heap.size w (wr.setCell ⟨w.heap.size, k, none⟩ (.int .u64 ((nth xs (ws + k) / 2 ^ r : Nat) : Int)))) := hI.out.2.2.setCell (Nat.le_refl _) _
          have hl := Lib.hid hI.out.1.2.1
          generalize shrw (nth xs (ws + k)) (nth xs (ws + k + 1)) r = z at *
          generalize nth xs (ws + k) / 2 ^ r = p at *
          have hcell2 := HO1.out.cell (i := k) hlt
          rw [show nth (outs.set k p) k = p by simp [nth, hl.out, hlt]] at hcell2
          have hfr2 := HO1.out.frozen (i := k)
          have c2 := Lib.hid (at_any (some ⟨b, off, none⟩) n c (ws + k + 1) xs (wr.setCell ⟨w.heap.size, k, none⟩ (.int .u64 (p : Int))).drew (H.out.below HB1.out).drew (i' := (ws : Int) + (k : Int) + 1) (by omega) (by omega))
          generalize nth xs (ws + k + 1) = nb at *
          go_wp2
          have i0 : (0 : Int) ≤ (k : Int) := by omega
          have i1 : (k : Int) < (m : Int) := by omega
          have s1 : IntKind.i64.wrap ((ws : Int) + (k : Int)) = (ws : Int) + (k : Int) := IntWalk.i64_in _ (by omega)
          have s2 : IntKind.i64.wrap ((ws : Int) + (k : Int) + 1) = (ws : Int) + (k : Int) + 1 := IntWalk.i64_in _ (by omega)
          refine wp_region_still_tail 15 (by kernel_rfl) (by kernel_rfl) ?_
          simp only [List.take_succ_cons, List.take_zero, List.drop_succ_cons, List.drop_zero]
          change wpStill _ _ (World.drew _) (fun a' => wpList _ _ _ _ a' (World.drew _)) _ _
          repeat still_step
          still_call (c2.out.mono fun e w' h => ⟨h.1, h.2.symm⟩)
          repeat still_step
          refine wpStill_nil ?_
          change wpList _ _ _ _ _ (World.drew _)
          clear s1 s2
          go_wp2
          go_roundw
          case rel =>
            refine ⟨k + 1, _, ⟨HS.out, ?_, (HB1.out.drew.setCell (p := ⟨w.heap.size, k, none⟩) (Nat.le_refl _) (.int .u64 (z : Int)))⟩, by omega, by go_num⟩
            have := HO1.out.drew.stored (i := k) (x := z)
            rw [List.set_set] at this
            exact this
          case measure => simp [intOf]; omega
      · obtain rfl : k = m := by omega
        go_wp2
        go_ret3
        have hI2 := hI.out
        rw [HD.out _ hI2.1] at hI2
        rw [HB2.out]
        exact ⟨_, _, _, rfl, hI2.2.1, hI2.2.2⟩
  · have ht0 : (strip (xs.take ws)).length = 0 := by omega
    have hv0 := hs0.1 ht0
    rw [ht0] at c1
    have hm40 : m ≤ 1099511627776 := by omega
    by_cases hy0 : y = 0
    · have HB2 : Hid (bo = false) := by
        show _ = _
        rw [hbo, hl, hv0, hg.1 hy0]
        simp
      have e0 : ((y : Int) != 0) = false := by simp [hy0]
      clear hl hs0 hg hbo hv0 ht0 ht BX hy0
      generalize nth xs ws = x0 at *
      go_enter Tryz.func189, Tryz.ntmps189
      go_wp2_with fail
      refine c1.out.mono ?_
      rintro e w' ⟨rfl, rfl⟩
      clear c1
      go_wp2_with (at_make; clear v1 hca; refine wpList_mk rfl (.tmp 48) (.tmp 48) rfl HE.out w.heap.size m rfl rfl rfl rfl hm40 (Nat.le_refl _) ?_; intro w1 ho1 hg1 hb1; clear hcap hmn hge em q1 q2)
      have HO : Hid (Own .u64 41 w.heap.size w1 (some ⟨w.heap.size, 0, none⟩) m m (List.replicate m 0) ∧ Below w.heap.size w w1) := ⟨ho1, hb1⟩
      clear ho1 hb1 hg1
      go_loopw [52] (fun i wr => ∃ (k : Nat) (outs : List Nat), Hid (ShrI xs ws r m k outs ∧ Own .u64 41 w.heap.size wr (some ⟨w.heap.size, 0, none⟩) m m outs ∧ Below w.heap.size w wr) ∧ k ≤ m ∧ i = .int .i64 k) (fun i _ => m - (intOf i).toNat)
      case atStart => exact ⟨0, _, ⟨⟨All.replicate W_pos, by simp, fun j hj => by omega⟩, HO.out.1, HO.out.2⟩, by omega, rfl⟩
      case round =>
        obtain ⟨k, outs, hI, hk, rfl⟩ := hrel
        by_cases hlt : k < m
        · obtain ⟨b2, off2, e, hb2, hca⟩ := (H.out.below hI.out.2.2).at (i := ws + k) (by have := HM.out; omega)
          injection e with e
          injection e with e1 e2
          subst e1 e2
          have hwk : ws + k < n := by have := HM.out; omega
          have hcell := hI.out.2.1.cell hlt
          have hfr := hI.out.2.1.frozen (i := k)
          have hsz := Lib.hid (ownlt hI.out.2.1)
          have BX := Lib.hid (HX.out.nth W_pos (ws + k))
          by_cases hr0 : r = 0
          · subst hr0
            go_wp2
            go_roundw
            case rel =>
              refine ⟨k + 1, _, ⟨hI.out.1.step (x := nth xs (ws + k)) BX.out hlt (by rw [if_pos rfl]), hI.out.2.1.stored, hI.out.2.2.setCell (Nat.le_refl _) _⟩, by omega, by go_num⟩
            case measure => simp [intOf]; omega
          · have hr0' : 0 < r := by omega
            have g1 : decide (0 < (r : Int)) = true := by simpa using hr0'
            have HS := Lib.hid (hI.out.1.step (x := shrw (nth xs (ws + k)) (nth xs (ws + k + 1)) r) (shr_word BX.out hr0' hrl).1 hlt (by rw [if_neg hr0]))
            have q5 := lay (divP (nth xs (ws + k)) r)
            have q6 := lay (shr_or (b := nth xs (ws + k + 1)) BX.out hr0' hrl)
            have HO1 := Lib.hid (hI.out.2.1.stored (i := k) (x := nth xs (ws + k) / 2 ^ r))
            have HB1 : Hid (Below w.heap.size w (wr.setCell ⟨w.heap.size, k, none⟩ (.int .u64 ((nth xs (ws + k) / 2 ^ r : Nat) : Int)))) := hI.out.2.2.setCell (Nat.le_refl _) _
            have hl := Lib.hid hI.out.1.2.1
            generalize shrw (nth xs (ws + k)) (nth xs (ws + k + 1)) r = z at *
            generalize nth xs (ws + k) / 2 ^ r = p at *
            have hcell2 := HO1.out.cell (i := k) hlt
            rw [show nth (outs.set k p) k = p by simp [nth, hl.out, hlt]] at hcell2
            have hfr2 := HO1.out.frozen (i := k)
            have c2 := Lib.hid (at_any (some ⟨b, off, none⟩) n c (ws + k + 1) xs (wr.setCell ⟨w.heap.size, k, none⟩ (.int .u64 (p : Int))).drew (H.out.below HB1.out).drew (i' := (ws : Int) + (k : Int) + 1) (by omega) (by omega))
            generalize nth xs (ws + k + 1) = nb at *
            go_wp2
            have i0 : (0 : Int) ≤ (k : Int) := by omega
            have i1 : (k : Int) < (m : Int) := by omega
            have s1 : IntKind.i64.wrap ((ws : Int) + (k : Int)) = (ws : Int) + (k : Int) := IntWalk.i64_in _ (by omega)
            have s2 : IntKind.i64.wrap ((ws : Int) + (k : Int) + 1) = (ws : Int) + (k : Int) + 1 := IntWalk.i64_in _ (by omega)
            refine wp_region_still_tail 15 (by kernel_rfl) (by kernel_rfl) ?_
            simp only [List.take_succ_cons, List.take_zero, List.drop_succ_cons, List.drop_zero]
            change wpStill _ _ (World.drew _) (fun a' => wpList _ _ _ _ a' (World.drew _)) _ _
            repeat still_step
            still_call (c2.out.mono fun e w' h => ⟨h.1, h.2.symm⟩)
            repeat still_step
            refine wpStill_nil ?_
            change wpList _ _ _ _ _ (World.drew _)
            clear s1 s2
            go_wp2
            go_roundw
            case rel =>
              refine ⟨k + 1, _, ⟨HS.out, ?_, (HB1.out.drew.setCell (p := ⟨w.heap.size, k, none⟩) (Nat.le_refl _) (.int .u64 (z : Int)))⟩, by omega, by go_num⟩
              have := HO1.out.drew.stored (i := k) (x := z)
              rw [List.set_set] at this
              exact this
            case measure => simp [intOf]; omega
        · obtain rfl : k = m := by omega
          go_wp2
          go_ret3
          have hI2 := hI.out
          rw [HD.out _ hI2.1] at hI2
          rw [HB2.out]
          exact ⟨_, _, _, rfl, hI2.2.1, hI2.2.2⟩
    · have HB2 : Hid (bo = true) := by
        show _ = _
        have h1 : nth xs ws % 2 ^ r ≠ 0 := fun hh => hy0 (hg.2 hh)
        have h2 : W ^ ws * (nth xs ws % 2 ^ r) ≠ 0 := Nat.mul_ne_zero (Nat.pos_iff_ne_zero.1 (Nat.pow_pos W_pos)) h1
        rw [hbo, hl, hv0, decide_eq_true_eq]
        omega
      have hr1 : 0 < r := by
        rcases Nat.eq_zero_or_pos r with h0 | h0
        · exfalso
          apply hy0
          apply hg.2
          rw [h0]
          simp [Nat.mod_one]
        · exact h0
      have g0 : decide (0 < (r : Int)) = true := by simpa using hr1
      have e0 : ((y : Int) != 0) = true := by simp [hy0]
      clear hl hs0 hg hbo hv0 ht0 ht BX hy0
      generalize nth xs ws = x0 at *
      go_enter Tryz.func189, Tryz.ntmps189
      go_wp2_with fail
      refine c1.out.mono ?_
      rintro e w' ⟨rfl, rfl⟩
      clear c1
      go_wp2_with (at_make; clear v1 hca; refine wpList_mk rfl (.tmp 48) (.tmp 48) rfl HE.out w.heap.size m rfl rfl rfl rfl hm40 (Nat.le_refl _) ?_; intro w1 ho1 hg1 hb1; clear hcap hmn hge em q1 q2 g0 hr1)
      have HO : Hid (Own .u64 41 w.heap.size w1 (some ⟨w.heap.size, 0, none⟩) m m (List.replicate m 0) ∧ Below w.heap.size w w1) := ⟨ho1, hb1⟩
      clear ho1 hb1 hg1
      go_loopw [52] (fun i wr => ∃ (k : Nat) (outs : List Nat), Hid (ShrI xs ws r m k outs ∧ Own .u64 41 w.heap.size wr (some ⟨w.heap.size, 0, none⟩) m m outs ∧ Below w.heap.size w wr) ∧ k ≤ m ∧ i = .int .i64 k) (fun i _ => m - (intOf i).toNat)
      case atStart => exact ⟨0, _, ⟨⟨All.replicate W_pos, by simp, fun j hj => by omega⟩, HO.out.1, HO.out.2⟩, by omega, rfl⟩
      case round =>
        obtain ⟨k, outs, hI, hk, rfl⟩ := hrel
        by_cases hlt : k < m
        · obtain ⟨b2, off2, e, hb2, hca⟩ := (H.out.below hI.out.2.2).at (i := ws + k) (by have := HM.out; omega)
          injection e with e
          injection e with e1 e2
          subst e1 e2
          have hwk : ws + k < n := by have := HM.out; omega
          have hcell := hI.out.2.1.cell hlt
          have hfr := hI.out.2.1.frozen (i := k)
          have hsz := Lib.hid (ownlt hI.out.2.1)
          have BX := Lib.hid (HX.out.nth W_pos (ws + k))
          by_cases hr0 : r = 0
          · subst hr0
            go_wp2
            go_roundw
            case rel =>
              refine ⟨k + 1, _, ⟨hI.out.1.step (x := nth xs (ws + k)) BX.out hlt (by rw [if_pos rfl]), hI.out.2.1.stored, hI.out.2.2.setCell (Nat.le_refl _) _⟩, by omega, by go_num⟩
            case measure => simp [intOf]; omega
          · have hr0' : 0 < r := by omega
            have g1 : decide (0 < (r : Int)) = true := by simpa using hr0'
            have HS := Lib.hid (hI.out.1.step (x := shrw (nth xs (ws + k)) (nth xs (ws + k + 1)) r) (shr_word BX.out hr0' hrl).1 hlt (by rw [if_neg hr0]))
            have q5 := lay (divP (nth xs (ws + k)) r)
            have q6 := lay (shr_or (b := nth xs (ws + k + 1)) BX.out hr0' hrl)
            have HO1 := Lib.hid (hI.out.2.1.stored (i := k) (x := nth xs (ws + k) / 2 ^ r))
            have HB1 : Hid (Below w.heap.size w (wr.setCell ⟨w.heap.size, k, none⟩ (.int .u64 ((nth xs (ws + k) / 2 ^ r : Nat) : Int)))) := hI.out.2.2.setCell (Nat.le_refl _) _
            have hl := Lib.hid hI.out.1.2.1
            generalize shrw (nth xs (ws + k)) (nth xs (ws + k + 1)) r = z at *
            generalize nth xs (ws + k) / 2 ^ r = p at *
            have hcell2 := HO1.out.cell (i := k) hlt
            rw [show nth (outs.set k p) k = p by simp [nth, hl.out, hlt]] at hcell2
            have hfr2 := HO1.out.frozen (i := k)
            have c2 := Lib.hid (at_any (some ⟨b, off, none⟩) n c (ws + k + 1) xs (wr.setCell ⟨w.heap.size, k, none⟩ (.int .u64 (p : Int))).drew (H.out.below HB1.out).drew (i' := (ws : Int) + (k : Int) + 1) (by omega) (by omega))
            generalize nth xs (ws + k + 1) = nb at *
            go_wp2
            have i0 : (0 : Int) ≤ (k : Int) := by omega
            have i1 : (k : Int) < (m : Int) := by omega
            have s1 : IntKind.i64.wrap ((ws : Int) + (k : Int)) = (ws : Int) + (k : Int) := IntWalk.i64_in _ (by omega)
            have s2 : IntKind.i64.wrap ((ws : Int) + (k : Int) + 1) = (ws : Int) + (k : Int) + 1 := IntWalk.i64_in _ (by omega)
            refine wp_region_still_tail 15 (by kernel_rfl) (by kernel_rfl) ?_
            simp only [List.take_succ_cons, List.take_zero, List.drop_succ_cons, List.drop_zero]
            change wpStill _ _ (World.drew _) (fun a' => wpList _ _ _ _ a' (World.drew _)) _ _
            repeat still_step
            still_call (c2.out.mono fun e w' h => ⟨h.1, h.2.symm⟩)
            repeat still_step
            refine wpStill_nil ?_
            change wpList _ _ _ _ _ (World.drew _)
            clear s1 s2
            go_wp2
            go_roundw
            case rel =>
              refine ⟨k + 1, _, ⟨HS.out, ?_, (HB1.out.drew.setCell (p := ⟨w.heap.size, k, none⟩) (Nat.le_refl _) (.int .u64 (z : Int)))⟩, by omega, by go_num⟩
              have := HO1.out.drew.stored (i := k) (x := z)
              rw [List.set_set] at this
              exact this
            case measure => simp [intOf]; omega
        · obtain rfl : k = m := by omega
          go_wp2
          go_ret3
          have hI2 := hI.out
          rw [HD.out _ hI2.1] at hI2
          rw [HB2.out]
          exact ⟨_, _, _, rfl, hI2.2.1, hI2.2.2⟩
end Go.Proofs.YtamfhmmcnlollaaGreat
