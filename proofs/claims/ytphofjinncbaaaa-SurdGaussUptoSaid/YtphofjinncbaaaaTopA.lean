/-
  surdtop: sameNat, copyNat, one, clamp; append of a number's words.
-/
import Derived.Test.YtphofjinncbaaaaNatD
namespace Go.Proofs.Ytphofjinncbaaaa
open Go.RowKit
set_option linter.unusedVariables false

theorem app_types {P : Program} {T U e e' ty : TypeId} {A A2 : Option Addr} {n c m c2 : Nat} {w : World} (hT : P.underlying T = some (.slice e)) (hU : P.underlying U = some (.slice e')) :
    (Builtin.append_ #[T, U] ty #[.slice A n c, .slice A2 m c2]).run P w = (Builtin.append_ #[T, T] ty #[.slice A n c, .slice A2 m c2]).run P w := by
  simp [Builtin.append_, run_underlying hT, run_underlying hU]
theorem wpList_app2 {P : Program} {w : World} {k : IntKind} {t T U e' : TypeId} {B n c m c2 : Nat} {A A2 : Option Addr} {xs ys : List Nat} {ops : Array Oper} {rest : List Oper} {o : Oper} {a : Act} {Q : Exit → Act → World → Prop} (hgd : o.guard = none) (s x : Operand)
    (ho : o.op = .call { callee := .builtin .append, args := #[s, x], argTypes := #[T, U] }) (he : Elem P T t k) (hU : P.underlying U = some (.slice e'))
    (hs : a.eval s = .slice A n c) (hx : a.eval x = .slice A2 m c2) (hown : Own k t B w A n c xs) (hr : Rd k w A2 m c2 ys) (hlen : n + m ≤ 1099511627776) (hB : B ≤ w.heap.size)
    (h : ∀ A' c' w', Own k t B w' A' (n + m) c' (xs ++ ys) → Below B w w' → wpList P ops Q rest (a.put o.dst (.slice A' (n + m) c')) w') : wpList P ops Q (o :: rest) a w := by
  refine wpList_plain hgd fun K hK => ?_
  obtain ⟨A', c', w', hrun, h2, h3, h4, h5⟩ := run_app (P := P) (c2 := c2) o.type he hown hr hlen hB
  rw [← app_types he.1 hU] at hrun
  unfold Oper.wp execOp
  simp only [ho, resolve, invoke, builtin, Sem.run_bind, Sem.run_pure, Result.andThen_ok, List.map_toArray, List.map_cons, List.map_nil, hs, hx, hrun]
  exact hK _ _ (h A' c' w' h2 h3)

theorem wpList_app2g {P : Program} {w : World} {k : IntKind} {t T U e' : TypeId} {B n c m c2 : Nat} {A A2 : Option Addr} {xs ys : List Nat} {ops : Array Oper} {rest : List Oper} {o : Oper} {a : Act} {Q : Exit → Act → World → Prop} (hgd : Region.wanted o (yielded ops a.tmps) = true) (s x : Operand)
    (ho : o.op = .call { callee := .builtin .append, args := #[s, x], argTypes := #[T, U] }) (he : Elem P T t k) (hU : P.underlying U = some (.slice e'))
    (hs : a.eval s = .slice A n c) (hx : a.eval x = .slice A2 m c2) (hown : Own k t B w A n c xs) (hr : Rd k w A2 m c2 ys) (hlen : n + m ≤ 1099511627776) (hB : B ≤ w.heap.size)
    (h : ∀ A' c' w', Own k t B w' A' (n + m) c' (xs ++ ys) → Below B w w' → wpList P ops Q rest (a.put o.dst (.slice A' (n + m) c')) w') : wpList P ops Q (o :: rest) a w := by
  unfold wpList
  rw [if_pos hgd]
  refine .inl ?_
  obtain ⟨A', c', w', hrun, h2, h3, h4, h5⟩ := run_app (P := P) (c2 := c2) o.type he hown hr hlen hB
  rw [← app_types he.1 hU] at hrun
  unfold Oper.wp execOp
  simp only [ho, resolve, invoke, builtin, Sem.run_bind, Sem.run_pure, Result.andThen_ok, List.map_toArray, List.map_cons, List.map_nil, hs, hx, hrun]
  exact h A' c' w' h2 h3

set_option maxHeartbeats 400000 in
theorem copyNat_any {A : Option Addr} {n c : Nat} {xs : List Nat} {w : World} (h : Rd .u64 w A n c xs) (hn : n ≤ 1099511627776) :
    Calls Try.prog 54 #[.slice A n c] w (Gives .u64 76 w xs) := by
  have H := Lib.hid h
  have HE := Lib.hid elN
  clear h
  go_enter Try.func54, Try.ntmps54
  go_wp2_with (at_builtin; (refine wpList_app rfl (.tmp 3) (.tmp 4) rfl HE.out (t := 76) (k := .u64) (B := w.heap.size) (xs := []) (ys := xs) rfl rfl (Own.lit0 w (Nat.le_refl _)) (H.out.alloc _) (by omega) (by simp) ?_); intro B1 e1 w1 ho1 hb1 _ _)
  go_ret
  rw [Nat.zero_add] at ho1
  exact ⟨_, _, _, rfl, ho1, (belowA _ _).trans hb1⟩
theorem copyN_any {v : Value} {x L : Nat} {w : World} (h : Num w v x L) (hL : L ≤ 1099511627776) : Calls Try.prog 54 #[v] w (GV w x L) := by
  obtain ⟨A, n, c, xs, rfl, h1, h2, h3, h4⟩ := h
  refine (copyNat_any h1 (by omega)).mono ?_
  rintro e w1 ⟨A1, n1, c1, rfl, o, hb⟩
  exact ⟨A1, n1, c1, xs, rfl, o, h2, h3, hb, by rw [← o.len, h1.len]; exact h4⟩
def clampI (n lo hi : Int) : Int := if n < lo then lo else if hi < n then hi else n
set_option maxHeartbeats 400000 in
theorem clamp_any {n lo hi : Int} {w : World} : Calls Try.prog 37 #[.int .i64 n, .int .i64 lo, .int .i64 hi] w (fun e w' => e = .returned (.int .i64 (clampI n lo hi)) ∧ w = w') := by
  by_cases h1 : n < lo
  · have d1 : decide (n < lo) = true := by simpa using h1
    have e : clampI n lo hi = lo := by rw [clampI, if_pos h1]
    rw [e]
    clear e h1
    go_enter Try.func37, Try.ntmps37
    go_wp2
    go_ret
    exact ⟨rfl, rfl⟩
  · have d1 : decide (n < lo) = false := by simpa using h1
    by_cases h2 : hi < n
    · have d2 : decide (hi < n) = true := by simpa using h2
      have e : clampI n lo hi = hi := by rw [clampI, if_neg h1, if_pos h2]
      rw [e]
      clear e h1 h2
      go_enter Try.func37, Try.ntmps37
      go_wp2
      go_ret
      exact ⟨rfl, rfl⟩
    · have d2 : decide (hi < n) = false := by simpa using h2
      have e : clampI n lo hi = n := by rw [clampI, if_neg h1, if_neg h2]
      rw [e]
      clear e h1 h2
      go_enter Try.func37, Try.ntmps37
      go_wp2
      go_ret
      exact ⟨rfl, rfl⟩

set_option maxHeartbeats 1000000 in
theorem sameT_any {A A2 : Option Addr} {n c m c2 : Nat} {xs ys : List Nat} {w : World} (h : Rd .u64 w A n c xs) (h' : Rd .u64 w A2 m c2 ys) (hn : n ≤ 1099511627776) :
    Calls Try.prog 55 #[.slice A n c, .slice A2 m c2] w (Quiet (.bool (decide (xs = ys))) w) := by
  have H := Lib.hid h
  have H' := Lib.hid h'
  clear h h'
  by_cases hnm : n = m
  · subst hnm
    have q1 : ((n : Int) != (n : Int)) = false := by simp
    go_enter Try.func55, Try.ntmps55
    go_wp2
    go_loopw [13] (fun i wr => ∃ (k q : Nat), Hid ((∀ j, j < k → nth xs j = nth ys j) ∧ wr = w.drewN q) ∧ k ≤ n ∧ i = .int .i64 k) (fun i _ => n - (intOf i).toNat)
    case atStart => exact ⟨0, 0, ⟨fun j hj => by omega, rfl⟩, Nat.zero_le _, rfl⟩
    case round =>
      obtain ⟨k, q, hI, hk, rfl⟩ := hrel
      obtain ⟨hE, hw⟩ := hI.out
      have HE := Lib.hid hE
      have HW := Lib.hid hw
      have R1 : Hid (Rd .u64 wr A n c xs) := by rw [hw]; exact H.out.drewN q
      have R2 : Hid (Rd .u64 wr A2 n c2 ys) := by rw [hw]; exact H'.out.drewN q
      clear hE hI hw
      by_cases hlt : k < n
      · obtain ⟨b, off, ea, hb, hca⟩ := R1.out.at hlt
        obtain ⟨b2, off2, ea2, hb2, hcb⟩ := R2.out.at hlt
        subst ea ea2
        have i1 : (0 : Int) ≤ (k : Int) := by omega
        have i2 : (k : Int) < (n : Int) := by omega
        have hca' : ∀ w', Grow none wr.drew w' → w'.cell? ⟨b, off + k, none⟩ = some (.int .u64 ((nth xs k : Nat) : Int)) := fun w' h => h.cell hca (by simp)
        have hcb' : ∀ w', Grow none wr.drew w' → w'.cell? ⟨b2, off2 + k, none⟩ = some (.int .u64 ((nth ys k : Nat) : Int)) := fun w' h => h.cell hcb (by simp)
        by_cases hne : nth xs k = nth ys k
        · have hq : (((nth xs k : Nat) : Int) != ((nth ys k : Nat) : Int)) = false := by simp; omega
          have HN := Lib.hid hne
          clear hne
          go_wp2
          refine wp_region_grow none [(true, 0), (true, 1), (true, 2), (true, 3), (true, 4), (true, 5), (true, 6), (true, 7), (true, 8)] (by kernel_rfl) (by kernel_rfl) ?_
          repeat (refine ord_pas (by rfl) (fun K hK => ?_); go_simp; refine hK _ _ (fun w' hw' => (by first | (go_simp; done) | (go_simp; intro hh; cases hh))) ?_; clear hK K)
          refine ord_nil ?_
          clear hca' hcb'
          go_wp2
          go_roundw
          case rel =>
            refine ⟨k + 1, q + 1, ⟨fun j hj => ?_, by rw [HW.out]; rfl⟩, by omega, by go_num⟩
            by_cases hjk : j = k
            · subst hjk; exact HN.out
            · exact HE.out j (by omega)
          case measure => simp [intOf]; omega
        · have hq : (((nth xs k : Nat) : Int) != ((nth ys k : Nat) : Int)) = true := by simp; omega
          have HN := Lib.hid hne
          clear hne
          go_wp2
          refine wp_region_grow none [(true, 0), (true, 1), (true, 2), (true, 3), (true, 4), (true, 5), (true, 6), (true, 7), (true, 8)] (by kernel_rfl) (by kernel_rfl) ?_
          repeat (refine ord_pas (by rfl) (fun K hK => ?_); go_simp; refine hK _ _ (fun w' hw' => (by first | (go_simp; done) | (go_simp; intro hh; cases hh))) ?_; clear hK K)
          refine ord_nil ?_
          clear hca' hcb'
          go_wp2
          go_ret
          refine ⟨?_, q + 1, by rw [HW.out]; rfl⟩
          have : xs ≠ ys := fun e => HN.out (by rw [e])
          simp [this]
      · obtain rfl : k = n := by omega
        go_wp2
        go_ret
        refine ⟨?_, q, HW.out⟩
        have : xs = ys := eq_of_nth (by rw [H.out.len, H'.out.len]) (fun i hi => HE.out i (by rw [H.out.len] at hi; exact hi))
        simp [this]
  · have q1 : ((n : Int) != (m : Int)) = true := by simp; omega
    have HM := Lib.hid hnm
    clear hnm
    go_enter Try.func55, Try.ntmps55
    go_wp2
    go_ret
    refine ⟨?_, 0, rfl⟩
    have : xs ≠ ys := fun e => HM.out (by rw [← H.out.len, ← H'.out.len, e])
    simp [this]
theorem sameT_yes {A A2 : Option Addr} {n c m c2 : Nat} {xs ys : List Nat} {w : World} (h : Rd .u64 w A n c xs) (h' : Rd .u64 w A2 m c2 ys) (e : xs = ys) (hn : n ≤ 1099511627776) :
    Calls Try.prog 55 #[.slice A n c, .slice A2 m c2] w (Keeps (.bool true) w) :=
  (sameT_any h h' hn).mono fun _ _ ⟨he, q, hq⟩ => ⟨by rw [he, e]; simp, by rw [hq]; exact below_drewN _ _⟩
end Go.Proofs.Ytphofjinncbaaaa
