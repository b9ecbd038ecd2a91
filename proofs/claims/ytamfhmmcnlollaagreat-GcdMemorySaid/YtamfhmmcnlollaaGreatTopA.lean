/-
  surdtop: sameNat, copyNat, one, clamp; append of a number's words.
-/
import Derived.Test.YtamfhmmcnlollaaGreatNatC
namespace Go.Proofs.YtamfhmmcnlollaaGreat
open Go.RowKit
set_option linter.unusedVariables false

theorem app_types {P : Program} {T U e e' ty : TypeId} {A A2 : Option Addr} {n c m c2 : Nat} {w : World} (hT : P.underlying T = some (.slice e)) (hU : P.underlying U = some (.slice e')) :
    (Builtin.append_ #[T, U] ty #[.slice A n c, .slice A2 m c2]).run P w = (Builtin.append_ #[T, T] ty #[.slice A n c, .slice A2 m c2]).run P w := by
  simp [Builtin.append_, run_underlying hT, run_underlying hU]
theorem wpList_app2 {P : Program} {w : World} {k : IntKind} {t T U e' : TypeId} {B n c m c2 : Nat} {A A2 : Option Addr} {xs ys : List Nat} {ops : Array Oper} {rest : List Oper} {o : Oper} {a : Act} {Q : Exit → Act → World → Prop} (hgd : o.guard = none) (s x : Operand)
    (ho : o.op = .call { callee := .builtin .append, args := #[s, x], argTypes := #[T, U] }) (he : Elem P T t k) (hU : P.underlying U = some (.slice e'))
    (hs : a.eval s = .slice A n c) (hx : a.eval x = .slice A2 m c2) (hown : Own k t B w A n c xs) (hr : Rd k w A2 m c2 ys) (hlen : n + m ≤ 1099511627776) (hB : B ≤ w.heap.size)
    (h : ∀ A' c' w', Own k t B w' A' (n + m) c' (xs ++ ys) → Below B w w' → wpList P ops Q rest (a.put o.dst (.slice A' (n + m) c')) w') : wpList P ops Q (o :: rest) a w := by
  refine wpList_plain hgd fun K hK => ?_
  obtain ⟨A', c', w', hrun, h2, h3, h4, h5⟩ := run_app (P := P) (c2 := c2) o.type he hown hr hlen hB
  rw [← app_types he.1 hU] at hrun
  unfold Oper.wp execOp
  simp only [ho, resolve, invoke, builtin, Sem.run_bind, Sem.run_pure, Result.andThen_ok, List.map_toArray, List.map_cons, List.map_nil, hs, hx, hrun]
  exact hK _ _ (h A' c' w' h2 h3)

end Go.Proofs.YtamfhmmcnlollaaGreat
