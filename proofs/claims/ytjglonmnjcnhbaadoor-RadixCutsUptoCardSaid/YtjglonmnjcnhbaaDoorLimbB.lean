/-
  Walks: limb.Trim, nat.own, nat.Norm, limb.Sub, limb.Add, nat.Sub, nat.Add.
-/
import Derived.Test.YtjglonmnjcnhbaaDoorLimbA
namespace Go.Proofs.YtjglonmnjcnhbaaDoor
open Go.RowKit
set_option linter.unusedVariables false

set_option maxHeartbeats 400000 in
theorem trim_any (A : Option Addr) (n c : Nat) (xs : List Nat) (w : World) (h : Rd .u64 w A n c xs) (hn : n ≤ 1099511627776) :
    Calls Tryd.prog 68 #[.slice A n c] w (Gives .u64 27 w (strip xs)) := by
  have H := Lib.hid h
  have HN := Lib.hid hn
  have hl : (strip xs).length ≤ n := by have := strip_length_le xs; rw [h.len] at this; exact this
  have hcap := h.cap
  have HR : Hid (Rd .u64 w A (strip xs).length c (strip xs)) := by
    have h2 := h.upto hl
    rw [← strip_take] at h2
    exact h2
  clear h hn
  go_enter Tryd.func68, Tryd.ntmps68
  go_wp2_with (first
    | (go_at_call 102; refine (top_any _ _ _ _ _ H.out HN.out).mono ?_; rintro e w' ⟨rfl, rfl⟩)
    | (go_at_call 45; refine (clone_any _ _ _ _ _ HR.out (by have := HN.out; omega)).mono ?_; rintro e w' ⟨A1, n1, c1, rfl, ho1, hb1⟩))
  go_ret
  exact ⟨_, _, _, rfl, ho1, hb1⟩

set_option maxHeartbeats 400000 in
theorem own_any (A : Option Addr) (n c : Nat) (xs : List Nat) (w : World) (h : Rd .u64 w A n c xs) (hn : n ≤ 1099511627776) :
    Calls Tryd.prog 44 #[.slice A n c] w (Gives .u64 27 w (strip xs)) := by
  have H := Lib.hid h
  have HN := Lib.hid hn
  have hl : (strip xs).length ≤ n := by have := strip_length_le xs; rw [h.len] at this; exact this
  clear h hn
  go_enter Tryd.func44, Tryd.ntmps44
  go_wp2_with (go_at_call 68; refine (trim_any _ _ _ _ _ H.out HN.out).mono ?_; rintro e w1 ⟨A1, n1, c1, rfl, ho1, hb1⟩; by_cases hz : n1 = 0)
  · go_ret
    refine ⟨none, 0, 0, rfl, ?_, hb1⟩
    rw [List.eq_nil_of_length_eq_zero (l := strip xs) (by rw [ho1.len, hz])]
    exact Own.nil
  · have hne : ((n1 : Int) == 0) = false := by rw [beq_eq_false_iff_ne]; omega
    have hl2 : n1 ≤ n := by have := ho1.len; omega
    have HL := Lib.hid hl2
    clear hz hl2
    go_wp2_with (go_at_call 45; refine (clone_any _ _ _ _ _ ho1.rd (by have := HN.out; have := HL.out; omega)).mono ?_; rintro e w2 ⟨A2, n2, c2, rfl, ho2, hb2⟩)
    go_ret
    exact ⟨A2, n2, c2, rfl, ho2.mono hb1.size, hb1.trans (hb2.mono hb1.size)⟩

set_option maxHeartbeats 400000 in
theorem norm_any (A : Option Addr) (n c : Nat) (xs : List Nat) (w : World) (h : Rd .u64 w A n c xs) (hn : n ≤ 1099511627776) :
    Calls Tryd.prog 21 #[.slice A n c] w (Gives .u64 27 w (strip xs)) := by
  have H := Lib.hid h
  have HN := Lib.hid hn
  clear h hn
  go_enter Tryd.func21, Tryd.ntmps21
  go_wp2_with (go_at_call 44; refine (own_any _ _ _ _ _ H.out HN.out).mono ?_; rintro e w1 ⟨A1, n1, c1, rfl, ho1, hb1⟩)
  go_ret
  exact ⟨_, _, _, rfl, ho1, hb1⟩

def SubI (xs ys : List Nat) (N k cn : Nat) (outs : List Nat) : Prop :=
  k ≤ N ∧ cn ≤ 1 ∧ All W outs ∧ outs.length = N ∧ val W (xs.take k) + W ^ k * cn = val W (outs.take k) + val W (ys.take k)
theorem val_set_take {xs : List Nat} {k x : Nat} (h : k < xs.length) : val W ((xs.set k x).take (k + 1)) = val W (xs.take k) + W ^ k * x := by
  rw [val_take_succ k (by simpa using h), List.take_set_of_le (Nat.le_refl _), nth_lt (by simpa using h)]
  simp
theorem SubI.step {xs ys outs : List Nat} {N k cn : Nat} (h : SubI xs ys N k cn outs) (hx : All W xs) (hy : All W ys) (hk : k < N) :
    SubI xs ys N (k + 1) (borrows (nth xs k) (nth ys k) cn) (outs.set k (subw (nth xs k) (nth ys k) cn)) := by
  obtain ⟨h1, h2, h3, h4, h5⟩ := h
  have bx := hx.nth W_pos k
  have by_ := hy.nth W_pos k
  have hw : cn < W := by rw [W_eq]; omega
  obtain ⟨e1, e2, e3⟩ := sub_words_eq _ _ _ bx by_ hw
  refine ⟨hk, ?_, h3.set e2 k, by simpa using h4, ?_⟩
  · rw [W_eq] at *; omega
  · rw [val_set_take (by omega), val_take_succ' xs k, val_take_succ' ys k, Nat.pow_succ]
    generalize borrows (nth xs k) (nth ys k) cn = bo at *
    generalize subw (nth xs k) (nth ys k) cn = su at *
    have e4 : W ^ k * nth xs k + W ^ k * W * bo = W ^ k * su + W ^ k * nth ys k + W ^ k * cn := by
      rw [Nat.mul_assoc, ← Nat.mul_add, e1, Nat.mul_add, Nat.mul_add]
    omega

theorem run_max2 {P : Program} (ts : Array TypeId) (t : TypeId) (n m : Nat) (w : World) : (Builtin.max_ ts t #[.int .i64 (n : Int), .int .i64 (m : Int)]).run P w = .ok (.int .i64 ((max n m : Nat) : Int)) w := by
  rw [run_max_int2]
  congr 2
  split <;> omega

def minusN (x N b y : Nat) : Nat := x + W ^ N * b - y
theorem SubI.done {xs ys outs : List Nat} {N cn : Nat} (h : SubI xs ys N N cn outs) (hx : All W xs) (hy : All W ys) (hn : xs.length ≤ N) (hm : ys.length ≤ N) :
    cn = brw (val W xs) (val W ys) ∧ outs = wds W N (val W xs + W ^ N * brw (val W xs) (val W ys) - val W ys) := by
  obtain ⟨h1, h2, h3, h4, h5⟩ := h
  rw [val_take_ge hn, val_take_ge hm, val_take_ge (by omega)] at h5
  have l1 := val_lt hx
  have l2 := val_lt hy
  have l3 := val_lt h3
  rw [h4] at l3
  have p1 : W ^ xs.length ≤ W ^ N := Nat.pow_le_pow_right W_pos hn
  have p2 : W ^ ys.length ≤ W ^ N := Nat.pow_le_pow_right W_pos hm
  have hc : cn = brw (val W xs) (val W ys) := by
    unfold brw
    have : cn = 0 ∨ cn = 1 := by omega
    rcases this with rfl | rfl
    · rw [if_neg (by omega)]
    · rw [if_pos (by omega)]
  refine ⟨hc, eq_wds h3 h4 ?_⟩
  rw [← hc, Nat.mod_eq_of_lt (by omega)]
  omega

set_option maxHeartbeats 1000000 in
theorem lsub_any (A A2 : Option Addr) (n c m c2 : Nat) (xs ys : List Nat) (w : World) (h : Rd .u64 w A n c xs) (h2 : Rd .u64 w A2 m c2 ys) (hx : All W xs) (hy : All W ys) (hn : n ≤ 1099511627776) (hm : m ≤ 1099511627776) :
    Calls Tryd.prog 111 #[.slice A n c, .slice A2 m c2] w (Gives2 .u64 27 w (wds W (max n m) (val W xs + W ^ (max n m) * brw (val W xs) (val W ys) - val W ys)) (.int .u64 ((brw (val W xs) (val W ys) : Nat) : Int))) := by
  have H := Lib.hid h
  have H2 := Lib.hid h2
  have HE := Lib.hid elW
  have HX := Lib.hid hx
  have HY := Lib.hid hy
  have HN := Lib.hid hn
  have HM := Lib.hid hm
  clear h h2 hx hy
  have hmx := fun (ts : Array TypeId) (t : TypeId) => run_max2 (P := Tryd.prog) ts t n m w
  obtain ⟨N, hN⟩ : ∃ N, N = max n m := ⟨_, rfl⟩
  rw [← hN] at hmx ⊢
  have hNn : n ≤ N := by omega
  have hNm : m ≤ N := by omega
  have hNB : N ≤ 1099511627776 := by omega
  have HNB := Lib.hid hNB
  clear hN hn hm
  generalize hzs : wds W N (val W xs + W ^ N * brw (val W xs) (val W ys) - val W ys) = zs
  generalize hbv : brw (val W xs) (val W ys) = bv at *
  have HZ := Lib.hid hzs
  have HB := Lib.hid hbv
  clear hzs hbv
  go_enter Tryd.func111, Tryd.ntmps111
  go_wp2_with (at_make; refine wpList_mk rfl (.tmp 13) (.tmp 13) rfl HE.out w.heap.size N rfl rfl rfl rfl HNB.out (Nat.le_refl _) ?_; intro w1 ho1 hg1 hb1)
  have HO : Hid (Own .u64 27 w.heap.size w1 (some ⟨w.heap.size, 0, none⟩) N N (List.replicate N 0) ∧ Below w.heap.size w w1) := ⟨ho1, hb1⟩
  clear ho1 hb1 hg1 hmx
  go_loopw [7, 17] (fun cv i wr => ∃ (k cn : Nat) (outs : List Nat), Hid (SubI xs ys N k cn outs ∧ Own .u64 27 w.heap.size wr (some ⟨w.heap.size, 0, none⟩) N N outs ∧ Below w.heap.size w wr) ∧ cv = .int .u64 cn ∧ i = .int .i64 k) (fun _ i _ => N - (intOf i).toNat)
  case atStart => exact ⟨0, 0, List.replicate N 0, ⟨⟨Nat.zero_le _, Nat.zero_le _, All.replicate W_pos, List.length_replicate, by simp [val]⟩, HO.out.1, HO.out.2⟩, rfl, rfl⟩
  case round =>
    obtain ⟨k, cn, outs, hI, rfl, rfl⟩ := hrel
    have hk : k ≤ N := hI.out.1.1
    by_cases hlt : k < N
    · have hcell := hI.out.2.1.cell hlt
      have hfr := hI.out.2.1.frozen (i := k)
      have R1 := Lib.hid (H.out.below hI.out.2.2)
      have R2 := Lib.hid (H2.out.below hI.out.2.2)
      have B1 := Lib.hid (HX.out.nth W_pos k)
      have B2 := Lib.hid (HY.out.nth W_pos k)
      have B3 : Hid (cn < W) := by show cn < W; have := hI.out.1.2.1; rw [W_eq]; omega
      go_wp2_with (first
        | (go_at_call 116; refine (subW_any (nth xs k) (nth ys k) cn _ B1.out B2.out B3.out rfl rfl rfl).mono ?_; rintro e w' ⟨rfl, rfl⟩)
        | (go_at_call 78; (first | with_reducible refine (at_any A n c k xs _ R1.out rfl HN.out).mono ?_ | with_reducible refine (at_any A2 m c2 k ys _ R2.out rfl HM.out).mono ?_); rintro e w' ⟨rfl, rfl⟩))
      go_roundw
      case rel =>
        refine ⟨k + 1, _, _, ⟨hI.out.1.step HX.out HY.out hlt, hI.out.2.1.stored, hI.out.2.2.setCell (Nat.le_refl _) _⟩, rfl, by go_num⟩
      case measure => simp [intOf]; omega
    · obtain rfl : k = N := by omega
      go_wp2
      go_ret2
      obtain ⟨e1, e2⟩ := hI.out.1.done HX.out HY.out (by rw [H.out.len]; exact hNn) (by rw [H2.out.len]; exact hNm)
      refine ⟨_, _, _, ?_, by rw [← HZ.out, ← HB.out, ← e2]; exact hI.out.2.1, hI.out.2.2⟩
      rw [← HB.out, ← e1]
      rfl
end Go.Proofs.YtjglonmnjcnhbaaDoor
