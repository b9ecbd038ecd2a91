/-
  The reference of layer 1: surdref01.from, Add, Sub, MulAdd, DivOne; surdlaw01.copied. The reference of layer 1: surdref01.Add, Sub, MulAdd, DivOne. surdref01.MulSub. LimbSums: Add, Sub, MulAdd, MulSub, DivOne of any lists and words are the document's.
-/
import Derived.Test.YtphofjinncbaaaaFixed
import Derived.Test.YtphofjinncbaaaaMsub
namespace Go.Proofs.Ytphofjinncbaaaa
open Go.RowKit
set_option linter.unusedVariables false

theorem Own.lit0 {k : IntKind} {t : TypeId} {B : Nat} (w : World) (hB : B ≤ w.heap.size) : Own k t B (w.alloc (.cells #[] t)) (some ⟨w.heap.size, 0, none⟩) 0 0 [] :=
  Own.lit (k := k) (t := t) w [] (by simp [maxLen]) hB

end Go.Proofs.Ytphofjinncbaaaa
namespace Go.Proofs.Ytphofjinncbaaaa
open Go.RowKit
set_option linter.unusedVariables false

theorem WD_pow (n : Nat) : W ^ n = D ^ (4 * n) := by rw [W_D, ← Nat.pow_mul]
theorem lt_D {x n : Nat} (h : x < W ^ n) : x < D ^ (4 * n) := by rw [← WD_pow]; exact h
theorem Rd.vlt {w : World} {A : Option Addr} {n c : Nat} {xs : List Nat} (h : Rd .u64 w A n c xs) (hx : All W xs) : val W xs < W ^ n := by
  have := val_lt hx
  rwa [h.len] at this
theorem plus_lt {x y n m K : Nat} (hx : x < W ^ n) (hy : y < W ^ m) (hK : max n m = K) : x + y < D ^ (4 * K + 1) := by
  have a : W ^ n ≤ W ^ K := Nat.pow_le_pow_right W_pos (by omega)
  have b : W ^ m ≤ W ^ K := Nat.pow_le_pow_right W_pos (by omega)
  have e : D ^ (4 * K + 1) = W ^ K * D := by rw [Nat.pow_succ, WD_pow]
  rw [e, D_eq]
  omega

theorem sub_K {x n M : Nat} (hx : x < W ^ n) (hn : n ≤ M) : x + D ^ (4 * M) < D ^ (4 * M + 1) := by
  have a : W ^ n ≤ W ^ M := Nat.pow_le_pow_right W_pos hn
  have e : D ^ (4 * M + 1) = W ^ M * D := by rw [Nat.pow_succ, WD_pow]
  rw [e, ← WD_pow, D_eq]
  omega
end Go.Proofs.Ytphofjinncbaaaa
namespace Go.Proofs.Ytphofjinncbaaaa
open Go.RowKit
set_option linter.unusedVariables false
theorem Dgs.nil {w : World} : Dgs w (.slice none 0 0) 0 0 := ⟨none, 0, 0, [], rfl, Rd.nil, All.nil, rfl, Nat.le_refl _⟩

end Go.Proofs.Ytphofjinncbaaaa
namespace Go.Proofs.Ytphofjinncbaaaa
open Go.RowKit
set_option linter.unusedVariables false

theorem At.grow {w : World} {p : Addr} {v : Value} (h : At w p v) : ∀ w', Grow none w.drew w' → w'.cell? p = some v := fun w' g => g.cell (p := p) (v := v) h.1 (by simp)
theorem At.grow0 {w : World} {p : Addr} {v : Value} (h : At w p v) : ∀ w', Grow none w w' → w'.cell? p = some v := fun w' g => g.cell (p := p) (v := v) h.1 (by simp)

theorem same1_yes {A A2 : Option Addr} {n c m c2 : Nat} {xs ys : List Nat} {w : World} (h : Rd .u64 w A n c xs) (h' : Rd .u64 w A2 m c2 ys) (e : xs = ys) (hn : n ≤ 1099511627776) :
    Calls Try.prog 118 #[.slice A n c, .slice A2 m c2] w (Keeps (.bool true) w) :=
  (same1_any h h' hn).mono fun _ _ ⟨he, q, hq⟩ => ⟨by rw [he, e]; simp, by rw [hq]; exact below_drewN _ _⟩

end Go.Proofs.Ytphofjinncbaaaa
