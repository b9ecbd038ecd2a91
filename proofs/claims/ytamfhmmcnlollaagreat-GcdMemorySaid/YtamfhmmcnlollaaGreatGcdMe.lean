/-
  gcd's functions and the document's meet one contract each; the program's answers are new memory.
-/
import Derived.Test.YtamfhmmcnlollaaGreatGcdCh
namespace Go.Proofs.YtamfhmmcnlollaaGreat
open Go.RowKit
set_option linter.unusedVariables false

def GIo (w : World) (xs : List Nat) (er : Int) (L : Nat) (e : Ending) (w' : World) : Prop :=
  ∃ A n c, e = .returned (.tuple #[.slice A n c, .int .i64 er]) ∧ Below w.heap.size w w' ∧ n ≤ L ∧ Own .u64 41 w.heap.size w' A n c xs
def GRo (w : World) (xs : List Nat) (ex : Bool) (er : Int) (L : Nat) (e : Ending) (w' : World) : Prop :=
  ∃ A n c, e = .returned (.tuple #[.slice A n c, .bool ex, .int .i64 er]) ∧ Below w.heap.size w w' ∧ n ≤ L ∧ Own .u64 41 w.heap.size w' A n c xs
def GCo (w : World) (xs : List Nat) (cn er : Int) (L : Nat) (e : Ending) (w' : World) : Prop :=
  ∃ A n c, e = .returned (.tuple #[.int .i64 cn, .slice A n c, .int .i64 er]) ∧ Below w.heap.size w w' ∧ n ≤ L ∧ Own .u64 41 w.heap.size w' A n c xs
def GC3O (w : World) (xs ys : List Nat) (er : Int) (L : Nat) (e : Ending) (w' : World) : Prop :=
  ∃ A n c A2 n2 c2, e = .returned (.tuple #[.slice A n c, .slice A2 n2 c2, .int .i64 er]) ∧ Below w.heap.size w w' ∧ n ≤ L ∧ n2 ≤ L ∧ Own .u64 41 w.heap.size w' A n c xs ∧ Own .u64 41 w.heap.size w' A2 n2 c2 ys ∧ Chain w.heap.size [(A, n, c), (A2, n2, c2)] w'.heap.size
theorem GIo.rd {w w' : World} {xs : List Nat} {er : Int} {L : Nat} {e : Ending} (h : GIo w xs er L e w') : GIx w xs er L e w' := by
  obtain ⟨A, n, c, h1, h2, h3, h4⟩ := h
  exact ⟨A, n, c, h1, h2, h3, h4.rd⟩
theorem gcrt_lenO {A A' : Option Addr} {n m c d : Nat} {w : World} (h : n ≠ m) : Calls Tryz.prog 53 #[.slice A n c, .slice A' m d] w (GC3O w [] [] 3 1203) := by
  have q0 : ((n : Int) != (m : Int)) = true := by simp; omega
  go_enter Tryz.func53, Tryz.ntmps53
  go_wp2
  go_ret3
  exact ⟨_, _, _, _, _, _, rfl, Below.refl _ _, Nat.zero_le _, Nat.zero_le _, Own.nil, Own.nil, chain_nil2 (Nat.le_refl _)⟩
theorem root_bothO (a : Nat) (N : Int) : ∃ (xs : List Nat) (ex : Bool) (er : Int),
    (∀ (w : World) (v : Value), Num w v a 30 → Calls Tryz.prog 54 #[v, .int .i64 N] w (GRo w xs ex er 30)) ∧
    (∀ (w : World) (v : Value), Num w v a 30 → Calls Tryz.prog 44 #[v, .int .i64 N] w (GRx w xs ex er 30)) := by
  rcases Int.lt_or_le N 1 with h | h
  · refine ⟨[], false, 3, fun w v h1 => ?_, fun w v h1 => ?_⟩
    · exact (groot_bad h).mono fun e w' h2 => ⟨_, _, _, h2.1, h2.2, by omega, Own.nil⟩
    · exact (root5_bad h).mono fun e w' h2 => ⟨_, _, _, h2.1, h2.2, by omega, rd_none⟩
  · obtain ⟨n, rfl⟩ : ∃ n : Nat, N = (n : Int) := ⟨N.toNat, by omega⟩
    refine ⟨dg W (nroot n a), decide (nroot n a ^ n = a), 0, fun w v h1 => ?_, fun w v h1 => ?_⟩
    · exact (groot_any h1 rfl (by omega) (by omega)).mono fun e w' ⟨A, m, c, h2, h3, h4, h5⟩ => ⟨A, m, c, h2, h4, h5, h3⟩
    · exact (root5_any h1 rfl (by omega) (by omega) (by omega)).mono fun e w' ⟨A, m, c, h2, h3, h4, h5⟩ => ⟨A, m, c, h2, h4, h5, h3.rd⟩
theorem count_bothO (a b : Nat) : ∃ (xs : List Nat) (cn er : Int),
    (∀ (w : World) (v u : Value), Num w v a 30 → Num w u b 30 → Calls Tryz.prog 55 #[v, u] w (GCo w xs cn er 30)) ∧
    (∀ (w : World) (v u : Value), Num w v a 30 → Num w u b 30 → Calls Tryz.prog 45 #[v, u] w (GCx w xs cn er 30)) := by
  rcases Nat.eq_zero_or_pos a with h | h
  · refine ⟨[], 0, 1, fun w v u h1 h2 => ?_, fun w v u h1 h2 => ?_⟩
    · exact (gcount_zero h1 h2 h (by omega)).mono fun e w' h2 => ⟨_, _, _, h2.1, h2.2, by omega, Own.nil⟩
    · exact (count5_zero h1 h2 h (by omega)).mono fun e w' h2 => ⟨_, _, _, h2.1, h2.2, by omega, rd_none⟩
  · rcases Nat.lt_or_ge b 2 with hb | hb
    · refine ⟨[], 0, 3, fun w v u h1 h2 => ?_, fun w v u h1 h2 => ?_⟩
      · exact (gcount_arg h1 h2 h hb (by omega) (by omega)).mono fun e w' h2 => ⟨_, _, _, h2.1, h2.2, by omega, Own.nil⟩
      · exact (count5_arg h1 h2 h hb (by omega) (by omega)).mono fun e w' h2 => ⟨_, _, _, h2.1, h2.2, by omega, rd_none⟩
    · obtain ⟨n, s, hns⟩ := cnt_exists h hb
      have key : ∀ {w w' : World} {e : Ending}, GCnt w a b 30 e w' → GCx w (dg W s) (n : Int) 0 30 e w' := fun ⟨n', s', A, m, c, h2, h3, h4, h5, h6, h7⟩ => by
        obtain ⟨rfl, rfl⟩ := h3.uniq hns hb
        exact ⟨A, m, c, h2, h5, h6, h4.rd⟩
      refine ⟨dg W s, (n : Int), 0, fun w v u h1 h2 => ?_, fun w v u h1 h2 => ?_⟩
      · refine (gcount_any h1 h2 h hb (by omega) (by omega)).mono fun e w' ⟨n', s', A, m, c, h2, h3, h4, h5, h6, h7⟩ => ?_
        obtain ⟨rfl, rfl⟩ := h3.uniq hns hb
        exact ⟨A, m, c, h2, h5, h6, h4⟩
      · exact (count5_any h1 h2 h hb (by omega) (by omega)).mono fun e w' h => key h
theorem inv_bothO (a m : Nat) : ∃ (xs : List Nat) (er : Int),
    (∀ (w : World) (v u : Value), Num w v a 30 → Num w u m 30 → Calls Tryz.prog 52 #[v, u] w (GIo w xs er 30)) ∧
    (∀ (w : World) (v u : Value), Num w v a 30 → Num w u m 30 → Calls Tryz.prog 41 #[v, u] w (GIx w xs er 30)) := by
  have key : ∃ (xs : List Nat) (er : Int), ∀ {w w' : World} {e : Ending}, GInv w a m 30 e w' → GIo w xs er 30 e w' := by
    by_cases hok : 0 < m ∧ Nat.gcd a m = 1
    · obtain ⟨x, hx, hc⟩ := inv_exists hok.1 hok.2
      refine ⟨dg W x, 0, fun {w w' e} ⟨A, n, c, er, he, hb, hl, hh⟩ => ?_⟩
      rcases hh.out with ⟨_, _, rfl, x', hx', hc', ho⟩ | ⟨_, _, _, h3 | h3⟩
      · obtain rfl := inv_uniq hc hc' hx hx'
        exact ⟨A, n, c, he, hb, hl, ho⟩
      · omega
      · exact absurd hok.2 h3.2.1
    · by_cases hm : m = 0
      · refine ⟨[], 1, fun {w w' e} ⟨A, n, c, er, he, hb, hl, hh⟩ => ?_⟩
        rcases hh.out with ⟨h1, h2, _⟩ | ⟨rfl, rfl, rfl, h3 | h3⟩
        · exact absurd ⟨h1, h2⟩ hok
        · obtain ⟨_, rfl⟩ := h3
          exact ⟨_, _, _, he, hb, hl, Own.nil⟩
        · omega
      · refine ⟨[], 4, fun {w w' e} ⟨A, n, c, er, he, hb, hl, hh⟩ => ?_⟩
        rcases hh.out with ⟨h1, h2, _⟩ | ⟨rfl, rfl, rfl, h3 | h3⟩
        · exact absurd ⟨h1, h2⟩ hok
        · omega
        · obtain ⟨_, _, rfl⟩ := h3
          exact ⟨_, _, _, he, hb, hl, Own.nil⟩
  obtain ⟨xs, er, key⟩ := key
  exact ⟨xs, er, fun w v u h1 h2 => (ginverse_any h1 h2 (by omega) (by omega)).mono fun e w' h => key h, fun w v u h1 h2 => (inverse5_any h1 h2 (by omega) (by omega)).mono fun e w' h => (key h).rd⟩
theorem crt_bothO (rs ms : List Nat) (n m : Nat) (hn : n ≤ 20) (hlen : ms.length = m) : ∃ (xs ys : List Nat) (er : Int),
    (∀ (w : World) (A A' : Option Addr) (c d : Nat), Nums w A n c rs (List.replicate n 30) → Nums w A' m d ms (List.replicate m 30) → Calls Tryz.prog 53 #[.slice A n c, .slice A' m d] w (GC3O w xs ys er 1203)) ∧
    (∀ (w : World) (A A' : Option Addr) (c d : Nat), Nums w A n c rs (List.replicate n 30) → Nums w A' m d ms (List.replicate m 30) → Calls Tryz.prog 42 #[.slice A n c, .slice A' m d] w (GC3 w xs ys er 1203)) := by
  by_cases hnm : n = m
  · subst hnm
    have key : ∃ (xs ys : List Nat) (er : Int), ∀ {w w' : World} {A1 A2 : Option Addr} {n1 c1 n2 c2 : Nat} {er' : Int}, CrS w w' rs ms n A1 n1 c1 A2 n2 c2 er' → er' = er ∧ Own .u64 41 w.heap.size w' A1 n1 c1 xs ∧ Own .u64 41 w.heap.size w' A2 n2 c2 ys := by
      by_cases hz : ∃ i, i < n ∧ nth ms i = 0
      · refine ⟨[], [], 1, fun h => ?_⟩
        rcases h with ⟨⟨rfl, rfl, rfl⟩, ⟨rfl, rfl, rfl⟩, ⟨rfl, _⟩ | ⟨_, h, _⟩⟩ | ⟨_, h, _⟩
        · exact ⟨rfl, Own.nil, Own.nil⟩
        · obtain ⟨i, hi, e⟩ := hz; have := h i hi; omega
        · obtain ⟨i, hi, e⟩ := hz; have := h i hi; omega
      · by_cases hX : ∃ X, ∀ j, j < n → X % nth ms j = nth rs j % nth ms j
        · obtain ⟨X, hX⟩ := hX
          obtain ⟨x, l, hc⟩ := crt_exists (rs := rs) (ms := ms) n (by omega) (fun j hj => Nat.pos_of_ne_zero fun e => hz ⟨j, hj, e⟩) hX
          refine ⟨dg W x, dg W l, 0, fun h => ?_⟩
          rcases h with ⟨_, _, ⟨_, h⟩ | ⟨_, _, h⟩⟩ | ⟨rfl, _, x', l', h, h1, h2⟩
          · exact absurd h hz
          · exact absurd ⟨X, hX⟩ h
          · obtain ⟨rfl, rfl⟩ := hc.uniq h
            exact ⟨rfl, h1, h2⟩
        · refine ⟨[], [], 4, fun h => ?_⟩
          rcases h with ⟨⟨rfl, rfl, rfl⟩, ⟨rfl, rfl, rfl⟩, ⟨_, h⟩ | ⟨rfl, _⟩⟩ | ⟨_, _, x', l', h, _⟩
          · exact absurd h hz
          · exact ⟨rfl, Own.nil, Own.nil⟩
          · exact absurd ⟨x', fun j hj => (h.2.2.1 j hj).2⟩ hX
    obtain ⟨xs, ys, er, key⟩ := key
    refine ⟨xs, ys, er, fun w A A' c d h h' => ?_, fun w A A' c d h h' => ?_⟩
    · refine (gcrt_ch h h' (fun i => nth_replicate_le _ _ _) (fun i => nth_replicate_le _ _ _) hn).mono fun e w' ⟨A1, n1, c1, A2, n2, c2, er', h1, h2, h3, h4, h5⟩ => ?_
      obtain ⟨rfl, k1, k2⟩ := key h5.out.1
      exact ⟨A1, n1, c1, A2, n2, c2, h1, h2, by omega, by omega, k1, k2, h5.out.2⟩
    · refine (crt5_any h h' (fun i => nth_replicate_le _ _ _) (fun i => nth_replicate_le _ _ _) hn).mono fun e w' ⟨A1, n1, c1, A2, n2, c2, er', h1, h2, h3, h4, h5⟩ => ?_
      obtain ⟨rfl, k1, k2⟩ := key h5.out
      exact ⟨A1, n1, c1, A2, n2, c2, h1, h2, h3, h4, k1.rd, k2.rd⟩
  · exact ⟨[], [], 3, fun w A A' c d h h' => gcrt_lenO hnm, fun w A A' c d h h' => crt5_len hnm⟩
end Go.Proofs.YtamfhmmcnlollaaGreat
