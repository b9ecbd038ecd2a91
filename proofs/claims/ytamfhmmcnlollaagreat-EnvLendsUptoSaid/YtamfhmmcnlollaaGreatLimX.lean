/-
  Walks: limb.top, slices.Clone, limb.Trim, nat.own, nat.Norm. Walks: limb.Trim, nat.own, nat.Norm, limb.Sub, limb.Add, nat.Sub, nat.Add.
-/
import Derived.Test.YtamfhmmcnlollaaGreatWord
namespace Go.Proofs.YtamfhmmcnlollaaGreat
open Go.RowKit
set_option linter.unusedVariables false

theorem elW : Elem Tryz.prog 22 41 .u64 := ⟨Tryz.underlying22, by kernel_rfl⟩
theorem elN : Elem Tryz.prog 23 41 .u64 := ⟨Tryz.underlying23, by kernel_rfl⟩

theorem strip_of_top {xs : List Nat} {m : Nat} (hm : m ≤ xs.length) (hz : ∀ j, m ≤ j → nth xs j = 0) (ht : m = 0 ∨ nth xs (m - 1) ≠ 0) : strip xs = xs.take m := by
  induction xs using strip_ind with
  | h0 => have : m = 0 := by simpa using hm
          subst this; rfl
  | hz xs ih =>
    by_cases he : m ≤ xs.length
    · rw [strip_snoc_zero, List.take_append_of_le_length he]
      refine ih he (fun j hj => ?_) ?_
      · have := hz j hj
        by_cases hl : j < xs.length
        · rw [nth_lt (by simp; omega), List.getElem_append_left hl] at this
          rw [nth_lt hl]; exact this
        · exact nth_ge (by omega)
      · rcases ht with h | h
        · exact .inl h
        · by_cases h0 : m = 0
          · exact .inl h0
          · refine .inr ?_
            rw [nth_lt (by simp; omega), List.getElem_append_left (by omega)] at h
            rw [nth_lt (by omega)]; exact h
    · simp only [List.length_append, List.length_cons, List.length_nil] at hm
      have e : m = xs.length + 1 := by omega
      subst e
      rcases ht with h | h
      · omega
      · exfalso; apply h
        rw [nth_lt (by simp)]
        simp
  | hs xs x hx =>
    rw [strip_snoc hx]
    by_cases he : m ≤ xs.length
    · exfalso
      have := hz xs.length he
      rw [nth_lt (by simp)] at this
      simp at this
      exact hx this
    · rw [List.take_of_length_le (by simp; omega)]

set_option maxHeartbeats 400000 in
theorem top_any (A : Option Addr) (n c : Nat) (xs : List Nat) (w : World) (h : Rd .u64 w A n c xs) (hn : n ≤ 1099511627776) :
    Calls Tryz.prog 165 #[.slice A n c] w fun e w' => e = .returned (.int .i64 (((strip xs).length : Nat) : Int)) ∧ w = w' := by
  have H := Lib.hid h
  clear h
  go_enter Tryz.func165, Tryz.ntmps165
  go_wp2
  go_loop [3] (fun i => ∃ k : Nat, (k ≤ n ∧ ∀ j, k ≤ j → nth xs j = 0) ∧ i = .int .i64 k) (fun i => (intOf i).toNat)
  case atStart => exact ⟨n, ⟨Nat.le_refl _, fun j hj => nth_ge (by rw [H.out.len]; exact hj)⟩, rfl⟩
  case round =>
    obtain ⟨k, hk0, rfl⟩ := hrel
    have HK := Lib.hid hk0
    have hk := hk0.1
    clear hk0
    by_cases hk1 : 0 < k
    · obtain ⟨m, rfl⟩ : ∃ m, k = m + 1 := ⟨k - 1, by omega⟩
      obtain ⟨b, off, e, hb, hc⟩ := H.out.at (i := m) (by omega)
      subst e
      by_cases hz : nth xs m = 0
      · have hc' : w.cell? ⟨b, off + m, none⟩ = some (.int .u64 0) := by rw [hc, hz]; rfl
        have HZ := Lib.hid hz
        clear hz hc
        go_wp2
        go_round
        case rel =>
          refine ⟨m, ⟨by omega, fun j hj => ?_⟩, rfl⟩
          by_cases hjm : j = m
          · subst hjm; exact HZ.out
          · exact HK.out.2 j (by omega)
        case measure => simp [intOf]
      · have hne : (((nth xs m : Nat) : Int) == 0) = false := by rw [beq_eq_false_iff_ne]; omega
        have HZ := Lib.hid hz
        clear hz
        go_wp2
        go_ret
        refine ⟨ret_int ?_, rfl⟩
        have e := strip_of_top (xs := xs) (m := m + 1) (by rw [H.out.len]; omega) HK.out.2 (.inr HZ.out)
        rw [e, List.length_take, H.out.len]
        omega
    · go_wp2
      go_ret
      refine ⟨ret_int ?_, rfl⟩
      have e := strip_of_top (xs := xs) (m := k) (by rw [H.out.len]; omega) HK.out.2 (.inl (by omega))
      rw [e, List.length_take, H.out.len]
      omega

theorem eql_nil (T : TypeId) (t : TypeId) (hT : Tryz.prog.underlying T = some (.slice t)) (ad : Addr) (n c : Nat) (w : World) :
    (binOp .eql T (.slice (some ad) n c) (.slice none 0 0)).run Tryz.prog w = .ok (.bool false) w := Lib.run_eql_slice_nil w T t (some ad) n c 0 0 hT
theorem eql_nil' (T : TypeId) (t : TypeId) (hT : Tryz.prog.underlying T = some (.slice t)) (n c : Nat) (w : World) :
    (binOp .eql T (.slice none n c) (.slice none 0 0)).run Tryz.prog w = .ok (.bool true) w := Lib.run_eql_slice_nil w T t none n c 0 0 hT
theorem Rd.none_nil {k : IntKind} {w : World} {n c : Nat} {xs : List Nat} (h : Rd k w none n c xs) : xs = [] := by
  rcases Nat.eq_zero_or_pos n with h0 | h0
  · exact List.eq_nil_of_length_eq_zero (by rw [h.len, h0])
  · obtain ⟨b, off, e, _⟩ := h.2 h0
    cases e

set_option maxHeartbeats 400000 in
theorem clone_any (A : Option Addr) (n c : Nat) (xs : List Nat) (w : World) (h : Rd .u64 w A n c xs) (hn : n ≤ 1099511627776) :
    Calls Tryz.prog 143 #[.slice A n c] w (Gives .u64 41 w xs) := by
  have HE := Lib.hid elW
  have H := Lib.hid h
  have HN := Lib.hid hn
  clear h hn
  cases A with
  | none =>
    have hq := eql_nil' 22 _ Tryz.underlying22 n c w
    go_enter Tryz.func143, Tryz.ntmps143
    go_wp2
    go_ret
    exact ⟨none, 0, 0, rfl, by rw [H.out.none_nil]; exact Own.nil, Below.refl _ _⟩
  | some ad =>
    have hq := eql_nil 22 _ Tryz.underlying22 ad n c w
    go_enter Tryz.func143, Tryz.ntmps143
    go_wp2_with (at_builtin; (refine wpList_app rfl (.tmp 5) (.tmp 6) rfl HE.out (t := 41) (k := .u64) (B := w.heap.size) (xs := []) (ys := xs) rfl rfl (Own.lit (t := 41) w [] (Nat.zero_le _) (Nat.le_refl _)) (H.out.alloc _) (by have := HN.out; omega) (by simp) ?_); intro A' c' w1 hown1 hb1 _ _)
    go_ret
    refine ⟨A', n, c', rfl, by simpa using hown1, ?_⟩
    exact ((Below.refl _ _).alloc (Nat.le_refl _) _).trans hb1

end Go.Proofs.YtamfhmmcnlollaaGreat
namespace Go.Proofs.YtamfhmmcnlollaaGreat
open Go.RowKit
set_option linter.unusedVariables false

set_option maxHeartbeats 400000 in
theorem trim_any (A : Option Addr) (n c : Nat) (xs : List Nat) (w : World) (h : Rd .u64 w A n c xs) (hn : n ≤ 1099511627776) :
    Calls Tryz.prog 157 #[.slice A n c] w (Gives .u64 41 w (strip xs)) := by
  have H := Lib.hid h
  have HN := Lib.hid hn
  have hl : (strip xs).length ≤ n := by have := strip_length_le xs; rw [h.len] at this; exact this
  have hcap := h.cap
  have HR : Hid (Rd .u64 w A (strip xs).length c (strip xs)) := by
    have h2 := h.upto hl
    rw [← strip_take] at h2
    exact h2
  clear h hn
  go_enter Tryz.func157, Tryz.ntmps157
  go_wp2_with (first
    | (go_at_call 165; refine (top_any _ _ _ _ _ H.out HN.out).mono ?_; rintro e w' ⟨rfl, rfl⟩)
    | (go_at_call 143; refine (clone_any _ _ _ _ _ HR.out (by have := HN.out; omega)).mono ?_; rintro e w' ⟨A1, n1, c1, rfl, ho1, hb1⟩))
  go_ret
  exact ⟨_, _, _, rfl, ho1, hb1⟩

set_option maxHeartbeats 400000 in
theorem own_any (A : Option Addr) (n c : Nat) (xs : List Nat) (w : World) (h : Rd .u64 w A n c xs) (hn : n ≤ 1099511627776) :
    Calls Tryz.prog 127 #[.slice A n c] w (Gives .u64 41 w (strip xs)) := by
  have H := Lib.hid h
  have HN := Lib.hid hn
  have hl : (strip xs).length ≤ n := by have := strip_length_le xs; rw [h.len] at this; exact this
  clear h hn
  go_enter Tryz.func127, Tryz.ntmps127
  go_wp2_with (go_at_call 157; refine (trim_any _ _ _ _ _ H.out HN.out).mono ?_; rintro e w1 ⟨A1, n1, c1, rfl, ho1, hb1⟩; by_cases hz : n1 = 0)
  · go_ret
    refine ⟨none, 0, 0, rfl, ?_, hb1⟩
    rw [List.eq_nil_of_length_eq_zero (l := strip xs) (by rw [ho1.len, hz])]
    exact Own.nil
  · have hne : ((n1 : Int) == 0) = false := by rw [beq_eq_false_iff_ne]; omega
    have hl2 : n1 ≤ n := by have := ho1.len; omega
    have HL := Lib.hid hl2
    clear hz hl2
    go_wp2_with (go_at_call 143; refine (clone_any _ _ _ _ _ ho1.rd (by have := HN.out; have := HL.out; omega)).mono ?_; rintro e w2 ⟨A2, n2, c2, rfl, ho2, hb2⟩)
    go_ret
    exact ⟨A2, n2, c2, rfl, ho2.mono hb1.size, hb1.trans (hb2.mono hb1.size)⟩

set_option maxHeartbeats 400000 in
theorem norm_any (A : Option Addr) (n c : Nat) (xs : List Nat) (w : World) (h : Rd .u64 w A n c xs) (hn : n ≤ 1099511627776) :
    Calls Tryz.prog 77 #[.slice A n c] w (Gives .u64 41 w (strip xs)) := by
  have H := Lib.hid h
  have HN := Lib.hid hn
  clear h hn
  go_enter Tryz.func77, Tryz.ntmps77
  go_wp2_with (go_at_call 127; refine (own_any _ _ _ _ _ H.out HN.out).mono ?_; rintro e w1 ⟨A1, n1, c1, rfl, ho1, hb1⟩)
  go_ret
  exact ⟨_, _, _, rfl, ho1, hb1⟩

def SubI (xs ys : List Nat) (N k cn : Nat) (outs : List Nat) : Prop :=
  k ≤ N ∧ cn ≤ 1 ∧ All W outs ∧ outs.length = N ∧ val W (xs.take k) + W ^ k * cn = val W (outs.take k) + val W (ys.take k)
theorem val_set_take {xs : List Nat} {k x : Nat} (h : k < xs.length) : val W ((xs.set k x).take (k + 1)) = val W (xs.take k) + W ^ k * x := by
  rw [val_take_succ k (by simpa using h), List.take_set_of_le (Nat.le_refl _), nth_lt (by simpa using h)]
  simp
theorem SubI.step {xs ys outs : List Nat} {N k cn : Nat} (h : SubI xs ys N k cn outs) (hx : All W xs) (hy : All W ys) (hk : k < N) :
    SubI xs ys N (k + 1) (borrows (nth xs k) (nth ys k) cn) (outs.set k (subw (nth xs k) (nth ys k) cn)) := by
  obtain ⟨h1, h2, h3, h4, h5⟩ := h
  have bx := hx.nth W_pos k
  have by_ := hy.nth W_pos k
  have hw : cn < W := by rw [W_eq]; omega
  obtain ⟨e1, e2, e3⟩ := sub_words_eq _ _ _ bx by_ hw
  refine ⟨hk, ?_, h3.set e2 k, by simpa using h4, ?_⟩
  · rw [W_eq] at *; omega
  · rw [val_set_take (by omega), val_take_succ' xs k, val_take_succ' ys k, Nat.pow_succ]
    generalize borrows (nth xs k) (nth ys k) cn = bo at *
    generalize subw (nth xs k) (nth ys k) cn = su at *
    have e4 : W ^ k * nth xs k + W ^ k * W * bo = W ^ k * su + W ^ k * nth ys k + W ^ k * cn := by
      rw [Nat.mul_assoc, ← Nat.mul_add, e1, Nat.mul_add, Nat.mul_add]
    omega

theorem run_max2 {P : Program} (ts : Array TypeId) (t : TypeId) (n m : Nat) (w : World) : (Builtin.max_ ts t #[.int .i64 (n : Int), .int .i64 (m : Int)]).run P w = .ok (.int .i64 ((max n m : Nat) : Int)) w := by
  rw [run_max_int2]
  congr 2
  split <;> omega

theorem SubI.done {xs ys outs : List Nat} {N cn : Nat} (h : SubI xs ys N N cn outs) (hx : All W xs) (hy : All W ys) (hn : xs.length ≤ N) (hm : ys.length ≤ N) :
    cn = brw (val W xs) (val W ys) ∧ outs = wds W N (val W xs + W ^ N * brw (val W xs) (val W ys) - val W ys) := by
  obtain ⟨h1, h2, h3, h4, h5⟩ := h
  rw [val_take_ge hn, val_take_ge hm, val_take_ge (by omega)] at h5
  have l1 := val_lt hx
  have l2 := val_lt hy
  have l3 := val_lt h3
  rw [h4] at l3
  have p1 : W ^ xs.length ≤ W ^ N := Nat.pow_le_pow_right W_pos hn
  have p2 : W ^ ys.length ≤ W ^ N := Nat.pow_le_pow_right W_pos hm
  have hc : cn = brw (val W xs) (val W ys) := by
    unfold brw
    have : cn = 0 ∨ cn = 1 := by omega
    rcases this with rfl | rfl
    · rw [if_neg (by omega)]
    · rw [if_pos (by omega)]
  refine ⟨hc, eq_wds h3 h4 ?_⟩
  rw [← hc, Nat.mod_eq_of_lt (by omega)]
  omega

end Go.Proofs.YtamfhmmcnlollaaGreat
