/-
  Walk: div.knuth.
-/
import Derived.Test.YtfpogghlcodncaaDoorDivP
import Derived.Test.YtfpogghlcodncaaDoorKnu3
import Derived.Test.YtfpogghlcodncaaDoorNatC
namespace Go.Proofs.YtfpogghlcodncaaDoor
open Go.RowKit
set_option linter.unusedVariables false

theorem RdS.two {w : World} {b : Nat} {A1 A2 : Option Addr} {n1 c1 n2 c2 : Nat} {xs ys : List Nat} {t : TypeId} (hb : b = w.heap.size) (h1 : Rd .u64 w A1 n1 c1 xs) (h2 : Rd .u64 w A2 n2 c2 ys) :
    RdS (w.alloc (.cells #[.slice A1 n1 c1, .slice A2 n2 c2] t)) (some ⟨b, 0, none⟩) 2 2 (fun i => if i = 0 then xs else ys) := by
  subst hb
  refine ⟨Nat.le_refl _, fun _ => ⟨_, _, rfl, by simp, fun i hi => ?_⟩⟩
  rcases (show i = 0 ∨ i = 1 by omega) with rfl | rfl
  · exact ⟨A1, n1, c1, by simp [go_sem], h1.alloc _⟩
  · exact ⟨A2, n2, c2, by simp [go_sem], h2.alloc _⟩

theorem Rd.mid {k : IntKind} {w : World} {b off n c j n' o' : Nat} {xs : List Nat} (h : Rd k w (some ⟨b, off, none⟩) n c xs) (hj : j + n' ≤ n) (ho : o' = off + j) : Rd k w (some ⟨b, o', none⟩) n' (c - j) ((xs.drop j).take n') := by
  subst ho
  have hl := h.len
  have hc := h.cap
  refine ⟨⟨by rw [List.length_take, List.length_drop, hl]; omega, by omega⟩, fun hn => ?_⟩
  obtain ⟨b', off', e, hlt, hcell⟩ := h.2 (by omega)
  injection e with e
  injection e with e1 e2
  subst e1 e2
  refine ⟨b, off + j, rfl, hlt, fun i hi => ?_⟩
  rw [Nat.add_assoc, hcell (j + i) (by omega), nth_take_lt hi, nth_drop_add]
theorem dif_self {t : Nat} (ht : t < W) : dif t t = 0 := by unfold dif; rw [show t + W - t = W by omega, Nat.mod_self]
theorem dif_succ {t : Nat} (ht : t < W) : dif t (t + 1) = W - 1 := by
  unfold dif
  have := W_pos
  rw [show t + W - (t + 1) = W - 1 by omega]
  exact Nat.mod_eq_of_lt (by omega)
end Go.Proofs.YtfpogghlcodncaaDoor
