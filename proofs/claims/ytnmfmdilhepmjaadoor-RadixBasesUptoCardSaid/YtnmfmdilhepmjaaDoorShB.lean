/-
  limb.Shl.
-/
import Derived.Test.YtnmfmdilhepmjaaDoorShA
namespace Go.Proofs.YtnmfmdilhepmjaaDoor
open Go.RowKit
set_option linter.unusedVariables false

theorem Own.room {k : IntKind} {t : TypeId} {B : Nat} (w : World) (n m : Nat) (h : n ≤ m) (hm : m ≤ 1099511627776) (hB : B ≤ w.heap.size) :
    Own k t B (w.alloc (.cells (madeCells (Value.int k 0).cells (m * 1)) t)) (some ⟨w.heap.size, 0, none⟩) n m (List.replicate n 0) := by
  have e : (madeCells (Value.int k 0).cells (m * 1)).toList = List.replicate m (Value.int k 0) := by
    rw [Nat.mul_one]
    exact toList_madeCells_one (Value.int k 0) m
  refine ⟨by simp, .inr ⟨w.heap.size, m, _, rfl, hB, heap_alloc_new w _, h, by simp only [maxLen]; omega, ?_, ?_⟩⟩
  · rw [← Array.length_toList, e]; simp
  · rw [e, Nat.mul_one, List.take_replicate, Nat.min_eq_left h]; simp
theorem wpList_mk2 {P : Program} {w : World} {k : IntKind} {t T : TypeId} {ops : Array Oper} {rest : List Oper} {o : Oper} {a : Act} {Q : Exit → Act → World → Prop} (hg : o.guard = none) (l c : Operand) (hop : o.op = Op.makeSlice T l c) (he : Elem P T t k)
    (B : Nat) (n m : Nat) {kl kc : IntKind} {L C : Int} (hl : a.eval l = .int kl L) (hc : a.eval c = .int kc C) (hL : L = (n : Int)) (hC : C = (m : Int)) (hnm : n ≤ m) (hn : m ≤ 1099511627776) (hB : B ≤ w.heap.size)
    (hK : ∀ w', Own k t B w' (some ⟨w.heap.size, 0, none⟩) n m (List.replicate n 0) → Below w.heap.size w w' → wpList P ops Q rest (a.put o.dst (.slice (some ⟨w.heap.size, 0, none⟩) n m)) w') :
    wpList P ops Q (o :: rest) a w := by
  obtain ⟨hT, hinfo⟩ := id he
  obtain ⟨i, hi, hz, hs, hb⟩ := info_parts hinfo
  refine wpList_plain hg fun K hK' => ?_
  subst hL hC
  have hr := run_make (P := P) w T t i (.int k 0) hT hi hz kl kc (n : Int) (m : Int) (by omega) (by omega) (by rw [hb]; omega) (by omega)
  simp only [Int.toNat_natCast] at hr
  unfold Oper.wp
  simp [execOp, hop, hl, hc, hr, Result.andThen]
  refine hK' _ _ (hK _ ?_ ((Below.refl _ _).alloc (Nat.le_refl _) _))
  rw [hs]
  exact Own.room w n m hnm hn hB

set_option maxHeartbeats 400000 in
theorem lshl_bad {v : Value} {z : Int} {w : World} (hz : z < 0 ∨ 1048576 < z) : Calls Tryd.prog 139 #[v, .int .i64 z] w (Gives2 .u64 25 w [] (.int .i64 3)) := by
  rcases hz with hz | hz
  · have d1 : decide (z < 0) = true := by simpa using hz
    go_enter Tryd.func139, Tryd.ntmps139
    go_wp2
    go_ret2
    exact ⟨_, _, _, rfl, Own.nil, Below.refl _ _⟩
  · have d1 : decide (z < 0) = false := by simp; omega
    have d2 : decide (1048576 < z) = true := by simpa using hz
    go_enter Tryd.func139, Tryd.ntmps139
    go_wp2
    go_ret2
    exact ⟨_, _, _, rfl, Own.nil, Below.refl _ _⟩

set_option maxHeartbeats 1000000 in
theorem lshl_any {A : Option Addr} {n c s : Nat} {s' : Int} {xs : List Nat} {w : World} (h : Rd .u64 w A n c xs) (hx : All W xs) (es : s' = (s : Int)) (hs : s ≤ 1048576) (hn : n ≤ 17179869184) :
    Calls Tryd.prog 139 #[.slice A n c, .int .i64 s'] w (Gives2 .u64 25 w (wds W (shlLen n s) (val W xs * 2 ^ s)) (.int .i64 0)) := by
  subst es
  have H := Lib.hid h
  have HX := Lib.hid hx
  have HE := Lib.hid elW
  have d1 : decide ((s : Int) < 0) = false := by simp
  have d2 : decide (1048576 < (s : Int)) = false := by simp; omega
  have HW : Hid (∀ outs low, ShlI xs (s / 64) (s % 64) n low outs → 0 < s % 64 → low < W → outs ++ [low] = wds W (shlLen n s) (val W xs * 2 ^ s)) := fun outs low hh h0 h1 => hh.done h.len h0 h1
  have HZ : Hid (s % 64 = 0 → List.replicate (s / 64) 0 ++ xs = wds W (shlLen n s) (val W xs * 2 ^ s)) := fun h0 => shl_whole hx h.len h0
  have HL : Hid ((wds W (shlLen n s) (val W xs * 2 ^ s)).length = n + s / 64 + (if 0 < s % 64 then 1 else 0)) := by show _ = _; rw [wds_length]; rfl
  have hrl : s % 64 < 64 := by omega
  have q1 := lay (show (s : Int) / 64 = ((s / 64 : Nat) : Int) by omega)
  have q2 := lay (show (s : Int) % 64 = ((s % 64 : Nat) : Int) by omega)
  have hws : s / 64 ≤ 16384 := by omega
  generalize wds W (shlLen n s) (val W xs * 2 ^ s) = zs at *
  generalize s / 64 = ws at *
  generalize s % 64 = r at *
  clear h hx hs
  by_cases hr0 : r = 0
  · subst hr0
    have HZ2 := Lib.hid (HZ.out rfl)
    clear HZ
    go_enter Tryd.func139, Tryd.ntmps139
    go_wp2_with (first
      | (at_make; refine wpList_mk2 rfl (.tmp 23) (.tmp 28) rfl HE.out w.heap.size ws (ws + n + 1) rfl rfl rfl (by omega) (by omega) (by omega) (Nat.le_refl _) ?_; intro w1 ho1 hb1)
      | (at_builtin; (refine wpList_app rfl (.tmp 32) (.tmp 33) rfl HE.out (t := 25) (k := .u64) (B := w.heap.size) rfl rfl ho1 (H.out.below hb1) (by omega) hb1.size ?_); intro A4 c4 w4 ho4 hb4 _ _))
    go_ret2
    refine ⟨_, _, _, rfl, ?_, hb1.trans hb4⟩
    rw [HZ2.out] at ho4
    exact ho4
  · have e0 : ((r : Int) == 0) = false := by rw [beq_eq_false_iff_ne]; omega
    have hr0' : 0 < r := by omega
    have u1 := lay (show IntKind.u64.wrap (r : Int) = (r : Int) by rw [IntKind.wrap_u64]; omega)
    have u2 := lay (show IntKind.u64.wrap (64 - (r : Int)) = ((64 - r : Nat) : Int) by rw [IntKind.wrap_u64]; omega)
    go_enter Tryd.func139, Tryd.ntmps139
    go_wp2_with (at_make; refine wpList_mk2 rfl (.tmp 23) (.tmp 28) rfl HE.out w.heap.size ws (ws + n + 1) rfl rfl rfl (by omega) (by omega) (by omega) (Nat.le_refl _) ?_; intro w1 ho1 hb1)
    have HO : Hid (Own .u64 25 w.heap.size w1 (some ⟨w.heap.size, 0, none⟩) ws (ws + n + 1) (List.replicate ws 0) ∧ Below w.heap.size w w1) := ⟨ho1, hb1⟩
    clear ho1 hb1 HZ
    go_loopw [8, 9, 37] (fun ov cv i wr => ∃ (k low c' : Nat) (A' : Option Addr) (outs : List Nat), Hid (ShlI xs ws r k low outs ∧ Own .u64 25 w.heap.size wr A' (ws + k) c' outs ∧ Below w.heap.size w wr) ∧ k ≤ n ∧ ov = .slice A' (ws + k) c' ∧ cv = .int .u64 low ∧ i = .int .i64 k) (fun _ _ i _ => n - (intOf i).toNat)
    case atStart => exact ⟨0, 0, _, _, _, ⟨ShlI.zero xs ws r, HO.out.1, HO.out.2⟩, by omega, rfl, rfl, rfl⟩
    case round =>
      obtain ⟨k, low, c', A', outs, hI, hk, rfl, rfl, rfl⟩ := hrel
      by_cases hlt : k < n
      · obtain ⟨b, off, e, hb, hca⟩ := (H.out.below hI.out.2.2).at hlt
        subst e
        have HS := Lib.hid (hI.out.1.step HX.out hr0' hrl)
        obtain ⟨w1', w2', w3', w4'⟩ := shl_word (HX.out.nth W_pos k) hr0' hrl hI.out.1.2.2.1
        have v1 := lay w1'
        have v2 := lay w2'
        clear w1' w2' w3' w4'
        generalize nth xs k = x at *
        generalize lo (x * 2 ^ r) + low = y at *
        generalize hi (x * 2 ^ r) = low' at *
        go_wp2_with (at_builtin; (refine wpList_app rfl (.tmp 41) (.tmp 47) rfl HE.out (t := 25) (k := .u64) (B := w.heap.size) (ys := [y]) rfl rfl (hI.out.2.1.alloc _) (Rd.lit1 wr _) (by omega) (by have := hI.out.2.2.size; simp; omega) ?_); intro A4 c4 w4 ho4 hb4 _ _)
        go_roundw
        case rel => exact ⟨k + 1, low', _, _, _, ⟨HS.out, ho4, (hI.out.2.2.alloc hI.out.2.2.size _).trans hb4⟩, by omega, rfl, rfl, by go_num⟩
        case measure => simp [intOf]; omega
      · obtain rfl : k = n := by omega
        go_wp2_with (at_builtin; (refine wpList_app rfl (.tmp 54) (.tmp 56) rfl HE.out (t := 25) (k := .u64) (B := w.heap.size) (ys := [low]) rfl rfl (hI.out.2.1.alloc _) (Rd.lit1 wr _) (by omega) (by have := hI.out.2.2.size; simp; omega) ?_); intro A4 c4 w4 ho4 hb4 _ _)
        go_ret2
        refine ⟨_, _, _, rfl, ?_, (hI.out.2.2.alloc hI.out.2.2.size _).trans hb4⟩
        rw [HW.out _ _ hI.out.1 hr0' (Nat.lt_trans hI.out.1.2.2.1 (by have : 2 ^ r < 2 ^ 64 := Nat.pow_lt_pow_right (by omega) hrl; exact this))] at ho4
        exact ho4
end Go.Proofs.YtnmfmdilhepmjaaDoor
