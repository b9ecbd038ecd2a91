/-
  Walks: limb.top, slices.Clone, limb.Trim, nat.own, nat.Norm.
-/
import Derived.Test.YtjglonmnjcnhbaaDoorWord
namespace Go.Proofs.YtjglonmnjcnhbaaDoor
open Go.RowKit
set_option linter.unusedVariables false

theorem elW : Elem Tryd.prog 22 27 .u64 := ⟨Tryd.underlying22, by kernel_rfl⟩
theorem elN : Elem Tryd.prog 23 27 .u64 := ⟨Tryd.underlying23, by kernel_rfl⟩

theorem strip_of_top {xs : List Nat} {m : Nat} (hm : m ≤ xs.length) (hz : ∀ j, m ≤ j → nth xs j = 0) (ht : m = 0 ∨ nth xs (m - 1) ≠ 0) : strip xs = xs.take m := by
  induction xs using strip_ind with
  | h0 => have : m = 0 := by simpa using hm
          subst this; rfl
  | hz xs ih =>
    by_cases he : m ≤ xs.length
    · rw [strip_snoc_zero, List.take_append_of_le_length he]
      refine ih he (fun j hj => ?_) ?_
      · have := hz j hj
        by_cases hl : j < xs.length
        · rw [nth_lt (by simp; omega), List.getElem_append_left hl] at this
          rw [nth_lt hl]; exact this
        · exact nth_ge (by omega)
      · rcases ht with h | h
        · exact .inl h
        · by_cases h0 : m = 0
          · exact .inl h0
          · refine .inr ?_
            rw [nth_lt (by simp; omega), List.getElem_append_left (by omega)] at h
            rw [nth_lt (by omega)]; exact h
    · simp only [List.length_append, List.length_cons, List.length_nil] at hm
      have e : m = xs.length + 1 := by omega
      subst e
      rcases ht with h | h
      · omega
      · exfalso; apply h
        rw [nth_lt (by simp)]
        simp
  | hs xs x hx =>
    rw [strip_snoc hx]
    by_cases he : m ≤ xs.length
    · exfalso
      have := hz xs.length he
      rw [nth_lt (by simp)] at this
      simp at this
      exact hx this
    · rw [List.take_of_length_le (by simp; omega)]

set_option maxHeartbeats 400000 in
theorem top_any (A : Option Addr) (n c : Nat) (xs : List Nat) (w : World) (h : Rd .u64 w A n c xs) (hn : n ≤ 1099511627776) :
    Calls Tryd.prog 102 #[.slice A n c] w fun e w' => e = .returned (.int .i64 (((strip xs).length : Nat) : Int)) ∧ w = w' := by
  have H := Lib.hid h
  clear h
  go_enter Tryd.func102, Tryd.ntmps102
  go_wp2
  go_loop [3] (fun i => ∃ k : Nat, (k ≤ n ∧ ∀ j, k ≤ j → nth xs j = 0) ∧ i = .int .i64 k) (fun i => (intOf i).toNat)
  case atStart => exact ⟨n, ⟨Nat.le_refl _, fun j hj => nth_ge (by rw [H.out.len]; exact hj)⟩, rfl⟩
  case round =>
    obtain ⟨k, hk0, rfl⟩ := hrel
    have HK := Lib.hid hk0
    have hk := hk0.1
    clear hk0
    by_cases hk1 : 0 < k
    · obtain ⟨m, rfl⟩ : ∃ m, k = m + 1 := ⟨k - 1, by omega⟩
      obtain ⟨b, off, e, hb, hc⟩ := H.out.at (i := m) (by omega)
      subst e
      by_cases hz : nth xs m = 0
      · have hc' : w.cell? ⟨b, off + m, none⟩ = some (.int .u64 0) := by rw [hc, hz]; rfl
        have HZ := Lib.hid hz
        clear hz hc
        go_wp2
        go_round
        case rel =>
          refine ⟨m, ⟨by omega, fun j hj => ?_⟩, rfl⟩
          by_cases hjm : j = m
          · subst hjm; exact HZ.out
          · exact HK.out.2 j (by omega)
        case measure => simp [intOf]
      · have hne : (((nth xs m : Nat) : Int) == 0) = false := by rw [beq_eq_false_iff_ne]; omega
        have HZ := Lib.hid hz
        clear hz
        go_wp2
        go_ret
        refine ⟨ret_int ?_, rfl⟩
        have e := strip_of_top (xs := xs) (m := m + 1) (by rw [H.out.len]; omega) HK.out.2 (.inr HZ.out)
        rw [e, List.length_take, H.out.len]
        omega
    · go_wp2
      go_ret
      refine ⟨ret_int ?_, rfl⟩
      have e := strip_of_top (xs := xs) (m := k) (by rw [H.out.len]; omega) HK.out.2 (.inl (by omega))
      rw [e, List.length_take, H.out.len]
      omega

theorem eql_nil (T : TypeId) (t : TypeId) (hT : Tryd.prog.underlying T = some (.slice t)) (ad : Addr) (n c : Nat) (w : World) :
    (binOp .eql T (.slice (some ad) n c) (.slice none 0 0)).run Tryd.prog w = .ok (.bool false) w := Lib.run_eql_slice_nil w T t (some ad) n c 0 0 hT
theorem eql_nil' (T : TypeId) (t : TypeId) (hT : Tryd.prog.underlying T = some (.slice t)) (n c : Nat) (w : World) :
    (binOp .eql T (.slice none n c) (.slice none 0 0)).run Tryd.prog w = .ok (.bool true) w := Lib.run_eql_slice_nil w T t none n c 0 0 hT
theorem Rd.none_nil {k : IntKind} {w : World} {n c : Nat} {xs : List Nat} (h : Rd k w none n c xs) : xs = [] := by
  rcases Nat.eq_zero_or_pos n with h0 | h0
  · exact List.eq_nil_of_length_eq_zero (by rw [h.len, h0])
  · obtain ⟨b, off, e, _⟩ := h.2 h0
    cases e

set_option maxHeartbeats 400000 in
theorem clone_any (A : Option Addr) (n c : Nat) (xs : List Nat) (w : World) (h : Rd .u64 w A n c xs) (hn : n ≤ 1099511627776) :
    Calls Tryd.prog 45 #[.slice A n c] w (Gives .u64 27 w xs) := by
  have HE := Lib.hid elW
  have H := Lib.hid h
  have HN := Lib.hid hn
  clear h hn
  cases A with
  | none =>
    have hq := eql_nil' 22 _ Tryd.underlying22 n c w
    go_enter Tryd.func45, Tryd.ntmps45
    go_wp2
    go_ret
    exact ⟨none, 0, 0, rfl, by rw [H.out.none_nil]; exact Own.nil, Below.refl _ _⟩
  | some ad =>
    have hq := eql_nil 22 _ Tryd.underlying22 ad n c w
    go_enter Tryd.func45, Tryd.ntmps45
    go_wp2_with (at_builtin; (refine wpList_app rfl (.tmp 5) (.tmp 6) rfl HE.out (t := 27) (k := .u64) (B := w.heap.size) (xs := []) (ys := xs) rfl rfl (Own.lit (t := 27) w [] (Nat.zero_le _) (Nat.le_refl _)) (H.out.alloc _) (by have := HN.out; omega) (by simp) ?_); intro A' c' w1 hown1 hb1 _ _)
    go_ret
    refine ⟨A', n, c', rfl, by simpa using hown1, ?_⟩
    exact ((Below.refl _ _).alloc (Nat.le_refl _) _).trans hb1

end Go.Proofs.YtjglonmnjcnhbaaDoor
