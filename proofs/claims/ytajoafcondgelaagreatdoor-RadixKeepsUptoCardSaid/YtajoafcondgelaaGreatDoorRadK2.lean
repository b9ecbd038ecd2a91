/-
  RadixPoints. RadixKeeps.
-/
import Derived.Test.YtajoafcondgelaaGreatDoorDecM
import Derived.Test.YtajoafcondgelaaGreatDoorSep
import Derived.OpenShut
namespace Go.Proofs.YtajoafcondgelaaGreatDoor
open Go.RowKit
set_option linter.unusedVariables false
/-- Places at a denominator of 0 -/
def GPx (w : World) (num den : Nat) (e : Ending) (w' : World) : Prop :=
  ∃ (n : Nat) (b : Bool) (er : Int), e = .returned (.tuple #[.int .i64 (n : Int), .bool b, .int .i64 er]) ∧ Below w.heap.size w w' ∧ Hid ((den = 0 ∧ n = 0 ∧ b = false ∧ er = 1) ∨ (0 < den ∧ er = 0 ∧ PlOk (num % den) den (nb den) n b))
theorem GPl.x {w w' : World} {num den : Nat} {e : Ending} (hd : 0 < den) (h : GPl w num den e w') : GPx w num den e w' := by
  obtain ⟨n, b, h1, h2, h3⟩ := h
  exact ⟨n, b, 0, h1, h2, .inr ⟨hd, rfl, h3⟩⟩
theorem plx_uniq {num den n n' : Nat} {b b' : Bool} {er er' : Int} (h : Hid ((den = 0 ∧ n = 0 ∧ b = false ∧ er = 1) ∨ (0 < den ∧ er = 0 ∧ PlOk (num % den) den (nb den) n b)))
    (h' : Hid ((den = 0 ∧ n' = 0 ∧ b' = false ∧ er' = 1) ∨ (0 < den ∧ er' = 0 ∧ PlOk (num % den) den (nb den) n' b'))) : n = n' ∧ b = b' ∧ er = er' := by
  rcases h.out with ⟨h1, rfl, rfl, rfl⟩ | ⟨h1, rfl, h2⟩ <;> rcases h'.out with ⟨k1, rfl, rfl, rfl⟩ | ⟨k1, rfl, k2⟩
  · exact ⟨rfl, rfl, rfl⟩
  · omega
  · omega
  · exact ⟨(h2.uniq k2).1, (h2.uniq k2).2, rfl⟩
set_option maxHeartbeats 1000000 in
theorem placesx_any {v u : Value} {num den L K : Nat} {w : World} (h : Num w v num L) (h' : Num w u den K) (hL : L ≤ 67108864) (hK : K ≤ 67108864) :
    Calls Tryz.prog 15 #[v, u] w (GPx w num den) := by
  rcases Nat.eq_zero_or_pos den with h0 | h0
  · subst h0
    have C := Lib.hid (quo_zero h h' rfl (by omega) (by omega))
    obtain ⟨_, _, _, _, rfl, _⟩ := id h
    obtain ⟨_, _, _, _, rfl, _⟩ := id h'
    clear h h'
    go_enter Tryz.func15, Tryz.ntmps15
    go_wp2_with fail
    refine C.out.mono ?_
    rintro e w1 ⟨A, n, c, A2, n2, c2, rfl, o1, o2, hb, _, _⟩
    have HB := Lib.hid hb
    clear hb o1 o2
    go_wp2
    go_ret3
    exact ⟨0, false, 1, rfl, HB.out, .inl ⟨rfl, rfl, rfl, rfl⟩⟩
  · exact (places_any h h' h0 hL hK).mono fun e w' hg => hg.x h0
theorem dec_third : decT (val W [1]) (val W [3]) 4 = ⟨#[48, 46, 51, 51, 51, 51]⟩ := by
  simp only [val, Nat.mul_zero, Nat.add_zero]
  rfl
theorem decimal_third {v u : Value} {w : World} {L K : Nat} (h : Num w v (val W [1]) L) (h' : Num w u (val W [3]) K) (hs : SG w) (hL : L ≤ 1048576) (hK : K ≤ 1048576) :
    Calls Tryz.prog 14 #[v, u, .int .i64 4] w (Keeps (.tuple #[.string ⟨#[48, 46, 51, 51, 51, 51]⟩, .int .i64 0]) w) := by
  have := decimal_any (p := 4) (p' := 4) h h' hs rfl (by simp [val]) (by omega) (by omega) (by omega)
  rwa [dec_third] at this
end Go.Proofs.YtajoafcondgelaaGreatDoor
namespace Go.Proofs.YtajoafcondgelaaGreatDoor
open Go.RowKit
set_option linter.unusedVariables false

theorem Ownz.lit {t : TypeId} {B b : Nat} (w : World) (zs : List Int) (hb : b = w.heap.size) (hz : zs.length ≤ 1000) (hB : B ≤ w.heap.size) : Ownz t B (w.alloc (.cells (zs.map (Value.int .i64)).toArray t)) (some ⟨b, 0, none⟩) zs.length zs.length zs := by
  subst hb
  have := World.ownsRow_lit (base := B) (e := t) (size := 1) w (zs.map (Value.int .i64)).toArray zs.length hB (by simp only [maxLen]; omega) (by simp)
  simpa [Ownz] using this
theorem Ownz.alloc {t : TypeId} {B n c : Nat} {w : World} {A : Option Addr} {zs : List Int} (h : Ownz t B w A n c zs) (o : Obj) : Ownz t B (w.alloc o) A n c zs := h.below (belowA _ _)
theorem Ownz.cap {t : TypeId} {B n c : Nat} {w : World} {A : Option Addr} {zs : List Int} (h : Ownz t B w A n c zs) : n ≤ c := h.rdz.1.2
theorem Ownz.cell {t : TypeId} {B g n c i : Nat} {w : World} {zs : List Int} (h : Ownz t B w (some ⟨g, 0, none⟩) n c zs) (hi : i < n) : w.cell? ⟨g, i, none⟩ = some (.int .i64 (zth zs i)) := by
  obtain ⟨b, off, e, _, hc⟩ := h.rdz.2 (by omega)
  injection e with e
  injection e with e1 e2
  subst e1; subst e2
  have := hc i hi
  rwa [Nat.zero_add] at this
theorem Rdz.upto {n c j : Nat} {w : World} {A : Option Addr} {zs : List Int} (h : Rdz w A n c zs) (hj : j ≤ n) : Rdz w A j c (zs.take j) := by
  refine ⟨⟨by rw [List.length_take, h.1.1]; omega, by have := h.1.2; omega⟩, fun hn => ?_⟩
  obtain ⟨b, off, e, hlt, hc⟩ := h.2 (by omega)
  refine ⟨b, off, e, hlt, fun i hi => ?_⟩
  rw [hc i (by omega), zth, zth, List.getD_eq_getElem?_getD, List.getD_eq_getElem?_getD, List.getElem?_take, if_pos hi]
theorem bits_u64 (op : BinOp) (x y : Int) : ∃ e : Nat, bits op .u64 x y = (e : Int) ∧ e < W := by
  have h := wf_bits op .u64 x y
  have h2 : IntKind.u64.min ≤ bits op .u64 x y ∧ bits op .u64 x y ≤ IntKind.u64.max := by simpa [Lit.wf] using h
  have e1 : IntKind.u64.min = 0 := by decide
  have e2 : IntKind.u64.max = 18446744073709551615 := by decide
  exact ⟨(bits op .u64 x y).toNat, by omega, by rw [W_eq]; omega⟩
/-- slices that lie in places of their own -/
theorem Lies.apart {A : Option Addr} {B U B' U' : Nat} (h : Lies A B U) (hd : U ≤ B' ∨ U' ≤ B) : ∀ a, A = some a → ¬ (B' ≤ a.block ∧ a.block < U') := fun a e k => by have := h a e; omega
/-- the elements from the i-th on of a row of three slices: the call's own, each in its place -/
def L3 (t : TypeId) (L : Nat) (lo hi : Nat → Nat) (i : Nat) (w : World) : Prop :=
  ∀ j, i ≤ j → j < 3 → ∃ A n c xs, w.cell? ⟨L, j, none⟩ = some (.slice A n c) ∧ Own .u64 t (lo j) w A n c xs ∧ Lies A (lo j) (hi j) ∧ n ≤ 67108864
theorem L3.step {t : TypeId} {L i : Nat} {lo hi : Nat → Nat} {w w' : World} (h : L3 t L lo hi i w) (hx : Ex (fun k => lo i ≤ k ∧ k < hi i) w w') (h1 : ∀ j, j < 3 → hi j ≤ L) (hL : L < w.heap.size) (ho : ∀ j k, j < k → k < 3 → hi j ≤ lo k) (hi3 : i < 3) : L3 t L lo hi (i + 1) w' := by
  intro j hj hj3
  obtain ⟨A, n, c, xs, h2, h3, h4, h5⟩ := h j (by omega) hj3
  refine ⟨A, n, c, xs, ?_, h3.ex hx (h4.apart (.inr (ho i j (by omega) hj3))), h4, h5⟩
  rw [← h2]
  exact World.cell?_of_block (w := w) (hx.block L hL (by have := h1 i hi3; omega))
set_option maxHeartbeats 1000000 in
/-- the same ints -/
theorem intsz_yes {A A2 : Option Addr} {n c m c2 : Nat} {xs ys : List Int} {w : World} (h : Rdz w A n c xs) (h' : Rdz w A2 m c2 ys) (e : xs = ys) (hn : n ≤ 1099511627776) :
    Calls Tryz.prog 16 #[.slice A n c, .slice A2 m c2] w (Keeps (.bool true) w) := by
  subst e
  obtain rfl : n = m := by rw [← h.1.1, ← h'.1.1]
  have H := Lib.hid h
  have H' := Lib.hid h'
  clear h h'
  go_enter Tryz.func16, Tryz.ntmps16
  go_wp2
  go_loopw [13] (fun iv wr => ∃ k q : Nat, Hid (wr = w.drewN q) ∧ k ≤ n ∧ iv = .int .i64 (k : Int)) (fun iv _ => n - (intOf iv).toNat)
  case atStart => exact ⟨0, 0, rfl, Nat.zero_le _, rfl⟩
  case round =>
    obtain ⟨k, q, hQ, hk, rfl⟩ := hrel
    have hq := hQ.out
    subst hq
    by_cases hlt : k < n
    · obtain ⟨bb, off, ea, hbb, hcaa⟩ := H.out.2 (by omega)
      obtain ⟨b2, off2, ea2, hb2, hcc2⟩ := H'.out.2 (by omega)
      have hca := hcaa k hlt
      have hc2 := hcc2 k hlt
      clear hcaa hcc2
      subst ea ea2
      have i1 : (0 : Int) ≤ (k : Int) := by omega
      have i2 : (k : Int) < (n : Int) := by omega
      generalize zth xs k = d at *
      go_wp2_with fail
      go_quiet (fail)
      go_wp2
      go_roundw
      case rel => exact ⟨k + 1, q + nq, rfl, by omega, by go_num⟩
      case measure => simp [intOf]; omega
    · obtain rfl : k = n := by omega
      go_wp2
      go_ret
      exact ⟨rfl, below_drewN _ _⟩

/-- the text that is read -/
def longT : ByteArray := ⟨#[49, 50, 51, 52, 53, 54, 55, 56, 57, 48, 49, 50, 51, 52, 53, 54, 55, 56, 57, 48, 49, 50, 51]⟩
theorem long_both : ∃ X : Nat, (∀ ⦃w : World⦄, SG w → Calls Tryz.prog 11 #[.string longT] w (GNE w X 24 0)) ∧ (∀ ⦃w : World⦄, Calls Tryz.prog 18 #[.string longT] w (GNE w X 24 0)) := by
  have hok : okText longT 10 := by
    refine ⟨by decide, by decide, ?_⟩
    intro k hk
    have : k < 23 := hk
    have h : ∀ k, k < 23 → dgv (byt longT k) < 10 := by decide
    exact h k this
  have hs : longT.size = 23 := rfl
  refine ⟨val 10 (digs longT), fun w hg => (rparse_any hg (by omega)).mono fun e w' h => ?_, fun w => (parse6_any (by omega)).mono fun e w' h => ?_⟩
  · rcases h with ⟨_, A, n, c, h1, h2, h3, h4⟩ | ⟨h1, _⟩
    · exact ⟨A, n, c, h1, h2, h3, by omega⟩
    · exact absurd hok h1
  · rcases h with ⟨_, A, n, c, h1, h2, h3, h4⟩ | ⟨h1, _⟩
    · exact ⟨A, n, c, h1, h2, h3, by omega⟩
    · exact absurd hok h1
theorem fmt_one {x L : Nat} {b : Int} (hL : L ≤ 1048576) : ∃ (s : ByteArray) (er : Int),
    (∀ ⦃v : Value⦄ ⦃w : World⦄, Num w v x L → SG w → Calls Tryz.prog 13 #[v, .int .i64 b] w (Keeps (.tuple #[.string s, .int .i64 er]) w)) := by
  by_cases h : b < 2 ∨ 36 < b
  · exact ⟨_, _, fun v w _ _ => rformatBase_bad h⟩
  · obtain ⟨bn, rfl, h1, h2⟩ := goodBase h
    exact ⟨_, _, fun v w hn hs => rformatBase_any hn hs rfl h1 h2 (by omega)⟩
theorem dec_one (x : Nat) : ∃ (T : ByteArray) (ec : Int),
    (∀ (w : World) (v u : Value) (L K : Nat), Num w v x L → Num w u x K → SG w → L ≤ 1048576 → K ≤ 1048576 → Calls Tryz.prog 14 #[v, u, .int .i64 3] w (Keeps (.tuple #[.string T, .int .i64 ec]) w)) := by
  rcases Nat.eq_zero_or_pos x with h0 | h0
  · subst h0
    exact ⟨_, _, fun w v u L K h h' _ _ _ => decimal_zero (p := 3) h h' rfl (by omega) (by omega) (by omega)⟩
  · exact ⟨_, _, fun w v u L K h h' hs _ _ => decimal_any (p := 3) h h' hs rfl h0 (by omega) (by omega) (by omega)⟩
theorem take_app {α : Type} (xs ys : List α) {n : Nat} (h : xs.length = n) : (xs ++ ys).take n = xs := by rw [← h]; exact List.take_left
/-- one of three numbers -/
def pick3 (a b c i : Nat) : Nat := if i = 0 then a else if i = 1 then b else c
/-- in one of four places -/
def S5 (x x' u u' v v' p p' j : Nat) : Prop := (x ≤ j ∧ j < x') ∨ (u ≤ j ∧ j < u') ∨ (v ≤ j ∧ j < v') ∨ (p ≤ j ∧ j < p')
theorem Lies.apart5 {A : Option Addr} {B U x x' u u' v v' p p' : Nat} (h : Lies A B U) (d1 : U ≤ x ∨ x' ≤ B) (d2 : U ≤ u ∨ u' ≤ B) (d3 : U ≤ v ∨ v' ≤ B) (d4 : U ≤ p ∨ p' ≤ B) : ∀ a, A = some a → ¬ S5 x x' u u' v v' p p' a.block := fun a e k => by
  have := h a e
  unfold S5 at k
  omega
theorem pick3_S5 {x x' u u' v v' p p' i j : Nat} (h : pick3 u v p i ≤ j ∧ j < pick3 u' v' p' i) : S5 x x' u u' v v' p p' j := by
  unfold pick3 at h
  unfold S5
  split at h
  · omega
  · split at h <;> omega
theorem Own.mono_u {k : IntKind} {t : TypeId} {B n c : Nat} {w : World} {A : Option Addr} {xs : List Nat} (h : Own k t B w A n c xs) : (Value.slice A n c).ownBlock = none ∨ ∃ g, A = some ⟨g, 0, none⟩ ∧ (Value.slice A n c).ownBlock = some g := by
  rcases h.2 with ⟨h2, _⟩ | ⟨g, cap, cur, hv, _⟩
  · injection h2 with e1 _ _; subst e1; exact .inl rfl
  · injection hv with e1 _ _; subst e1; exact .inr ⟨g, rfl, rfl⟩
theorem Ownz.mono_u {t : TypeId} {B n c : Nat} {w : World} {A : Option Addr} {xs : List Int} (h : Ownz t B w A n c xs) : (Value.slice A n c).ownBlock = none ∨ ∃ g, A = some ⟨g, 0, none⟩ ∧ (Value.slice A n c).ownBlock = some g := by
  rcases h.2 with ⟨h2, _⟩ | ⟨g, cap, cur, hv, _⟩
  · injection h2 with e1 _ _; subst e1; exact .inl rfl
  · injection hv with e1 _ _; subst e1; exact .inr ⟨g, rfl, rfl⟩
/-- an append onto a row of one's own writes into its block alone -/
theorem Ex.app {k : IntKind} {t : TypeId} {B n c lo hi : Nat} {w0 w w' : World} {A : Option Addr} {xs : List Nat} {o : Obj} (h : Ex (fun j => lo ≤ j ∧ j < hi) w0 w) (ho : Own k t B w A n c xs) (hl : Lies A lo hi) (hg : (w.alloc o).grownBy w' (Value.slice A n c).ownBlock) : Ex (fun j => lo ≤ j ∧ j < hi) w0 w' :=
  (h.trans (Ex.alloc w o)).trans (Ex.grown hg fun j hj => by
    rcases ho.mono_u with h0 | ⟨g, rfl, h0⟩
    · rw [h0] at hj; cases hj
    · rw [h0] at hj; injection hj with hj; subst hj; exact hl _ rfl)
theorem Ex.appz {t : TypeId} {B n c lo hi : Nat} {w0 w w' : World} {A : Option Addr} {xs : List Int} {o : Obj} (h : Ex (fun j => lo ≤ j ∧ j < hi) w0 w) (ho : Ownz t B w A n c xs) (hl : Lies A lo hi) (hg : (w.alloc o).grownBy w' (Value.slice A n c).ownBlock) : Ex (fun j => lo ≤ j ∧ j < hi) w0 w' :=
  (h.trans (Ex.alloc w o)).trans (Ex.grown hg fun j hj => by
    rcases ho.mono_u with h0 | ⟨g, rfl, h0⟩
    · rw [h0] at hj; cases hj
    · rw [h0] at hj; injection hj with hj; subst hj; exact hl _ rfl)
theorem L3.start {t : TypeId} {L bu eu bw ew bp ep : Nat} {w : World} {A1 A2 A3 : Option Addr} {n1 c1 n2 c2 n3 c3 : Nat} {xs1 xs2 xs3 : List Nat} {T : TypeId} (hL : L = w.heap.size)
    (h1 : Own .u64 t bu w A1 n1 c1 xs1) (l1 : Lies A1 bu eu) (h2 : Own .u64 t bw w A2 n2 c2 xs2) (l2 : Lies A2 bw ew) (h3 : Own .u64 t bp w A3 n3 c3 xs3) (l3 : Lies A3 bp ep) (k1 : n1 ≤ 67108864) (k2 : n2 ≤ 67108864) (k3 : n3 ≤ 67108864) :
    L3 t L (pick3 bu bw bp) (pick3 eu ew ep) 0 (w.alloc (.cells #[.slice A1 n1 c1, .slice A2 n2 c2, .slice A3 n3 c3] T)) := by
  subst hL
  intro j _ hj
  match j, hj with
  | 0, _ => exact ⟨A1, n1, c1, xs1, (At.box (i := 0) w _ rfl).1, h1.alloc _, l1, k1⟩
  | 1, _ => exact ⟨A2, n2, c2, xs2, (At.box (i := 1) w _ rfl).1, h2.alloc _, l2, k2⟩
  | 2, _ => exact ⟨A3, n3, c3, xs3, (At.box (i := 2) w _ rfl).1, h3.alloc _, l3, k3⟩
set_option maxHeartbeats 16000000 in
set_option maxRecDepth 100000 in
theorem radixKeeps_any {v : Value} {x L n c : Nat} {b : Int} {s : ByteArray} {A : Option Addr} {zs : List Int} {w : World} (h : Num w v x L) (hz : Rdz w A n c zs) (hs : SG w) (hL1 : 1 ≤ L) (hL : L ≤ 1048576) (hn : n ≤ 1048576) :
    Calls Tryz.prog 3 #[.agg #[v, .int .i64 b, .string s, .slice A n c]] w (Keeps (.bool true) w) := by
  obtain ⟨ds, e3, hdl, D1, D2⟩ := dg_both (x := x) (b := b) hL1 hL h.lt
  obtain ⟨Y, e4, G1, G2⟩ := fd_both (zs := zs) (b := b) hn hz.1.1
  obtain ⟨T1, ec1, F2⟩ := fmt_one (x := x) (b := b) hL
  obtain ⟨T2, ec2, Q1⟩ := dec_one x
  obtain ⟨X3, P1, P2⟩ := long_both
  have HA := Lib.hid (fun w => awake6_any (w := w))
  have HS := Lib.hid hs
  have HF := Lib.hid F2
  have HQ := Lib.hid Q1
  have HP := Lib.hid (And.intro P1 P2)
  have HD := Lib.hid (And.intro D1 D2)
  have HG := Lib.hid (And.intro G1 G2)
  have HDL := Lib.hid hdl
  have HZ := Lib.hid hz
  have HEW := Lib.hid elN
  have HEI := Lib.hid elI
  have H := Lib.hid h
  obtain ⟨vA, vn, vc, vx, rfl, hr, hva, hvv, hvl⟩ := h
  have HR := Lib.hid hr
  have HVX : Hid (vx.length = vn) := hr.len
  have HZL : Hid (zs.length = n) := hz.1.1
  have HVV : Hid (All W vx ∧ val W vx = x) := ⟨hva, hvv⟩
  clear hz hs D1 D2 G1 G2 F2 Q1 P1 P2 hdl hr hva hvv
  go_enter Tryz.func3, Tryz.ntmps3
  go_wp2_with fail
  refine (HA.out _ (HS.out.below ((Below.refl _ _).alloc (Nat.le_refl _) _))).mono ?_
  rintro e wa ⟨rfl, hba⟩
  have HB0 := Lib.hid (bt ((Below.refl _ _).alloc (Nat.le_refl _) _) hba)
  -- the two lists with room
  have F0 := Lib.hid ((At.box (i := 0) (t := 26) w #[.slice vA vn vc, .int .i64 b, .string s, .slice A n c] rfl).below hba)
  have F1 := Lib.hid ((At.box (i := 1) (t := 26) w #[.slice vA vn vc, .int .i64 b, .string s, .slice A n c] rfl).below hba)
  have F3 := Lib.hid ((At.box (i := 3) (t := 26) w #[.slice vA vn vc, .int .i64 b, .string s, .slice A n c] rfl).below hba)
  have RA := Lib.hid ((HR.out.below ((Below.refl _ _).alloc (Nat.le_refl _) _)).below hba)
  have ZA := Lib.hid ((HZ.out.below ((Below.refl _ _).alloc (Nat.le_refl _) _)).below hba)
  have x0 := (F0.out.below (belowA _ (.cells #[] 28))).1
  go_wp2_with (first
    | (at_builtin; (refine wpList_app rfl (.tmp 39) (.tmp 41) rfl HEW.out (t := 28) (k := .u64) (B := wa.heap.size) (xs := []) (ys := vx) rfl rfl (Own.lit0 wa (Nat.le_refl _)) (RA.out.alloc _) (by omega) (by simp) ?_); intro B1 e1 ws1 ho1 hb1 _ _; have K1 : Hid (Own .u64 28 wa.heap.size ws1 B1 vn e1 vx ∧ Below wa.heap.size wa ws1) := ⟨(by simpa using ho1), (belowA _ _).trans hb1⟩; clear ho1 hb1)
    | (at_builtin; (refine wpList_app rfl (.tmp 42) (.tmp 43) rfl HEW.out (t := 28) (k := .u64) (B := wa.heap.size) (xs := vx) (ys := [60929, 60930]) rfl rfl (K1.out.1.alloc _) (Rd.litn (k := .u64) (t := 28) _ [60929, 60930] rfl (by decide)) (by simp; omega) (by have := K1.out.2.size; simp; omega) ?_); intro B2 e2 ws2 ho2 hb2 _ _; have K2 : Hid (Own .u64 28 wa.heap.size ws2 B2 (vn + 2) e2 (vx ++ [60929, 60930]) ∧ Below wa.heap.size wa ws2) := ⟨ho2, (K1.out.2.alloc K1.out.2.size _).trans hb2⟩; have x0 := (F0.out.below K2.out.2).1; have x3 := (F3.out.below (bt K2.out.2 (belowA _ (.cells #[] 3)))).1; have hcp := K2.out.1.cap; clear ho2 hb2)
    | (at_builtin; (refine wpList_appz rfl (.tmp 50) (.tmp 52) rfl HEI.out (t := 3) (B := ws2.heap.size) (xs := []) (ys := zs) rfl rfl (Ownz.lit ws2 [] rfl (by decide) (Nat.le_refl _)) ((ZA.out.below K2.out.2).below (belowA _ _)) (by omega) (by simp) ?_); intro B3 e3' ws3 ho3 hb3 _; have K3 : Hid (Ownz 3 ws2.heap.size ws3 B3 n e3' zs ∧ Below ws2.heap.size ws2 ws3) := ⟨(by simpa using ho3), (belowA _ _).trans hb3⟩; clear ho3 hb3)
    | (at_builtin; (refine wpList_appz rfl (.tmp 53) (.tmp 54) rfl HEI.out (t := 3) (B := ws2.heap.size) (xs := zs) (ys := [77, 78]) rfl rfl (K3.out.1.alloc _) (Ownz.lit (t := 3) (B := 0) _ [77, 78] rfl (by decide) (Nat.zero_le _)).rdz (by simp; omega) (by have := K3.out.2.size; simp; omega) ?_); intro B4 e4' ws4 ho4 hb4 _; have K4 : Hid (Ownz 3 ws2.heap.size ws4 B4 (n + 2) e4' (zs ++ [77, 78]) ∧ Below ws2.heap.size ws2 ws4) := ⟨ho4, (K3.out.2.alloc K3.out.2.size _).trans hb4⟩; have HB4 : Hid (Below wa.heap.size wa ws4) := bt K2.out.2 K4.out.2; have x3 := (F3.out.below HB4.out).1; have hcp2 := K4.out.1.cap; clear ho4 hb4; have x0 := (F0.out.below HB4.out).1; have x1 := (F1.out.below HB4.out).1))
  have NA : Hid (Num ws4 (.slice B2 vn e2) x L) := ⟨B2, vn, e2, vx, rfl, by
    have := (K2.out.1.below K4.out.2).rd.upto (j := vn) (by omega)
    rwa [take_app _ _ HVX.out] at this, HVV.out.1, HVV.out.2, hvl⟩
  have ZD : Hid (Rdz ws4 B4 n e4' zs) := by
    have := K4.out.1.rdz.upto (j := n) (by omega)
    rwa [take_app _ _ HZL.out] at this
  have LW := Lib.hid K2.out.1.lies
  have LA := Lib.hid K4.out.1.lies
  have NW := K2.out.2.size
  have NB := K4.out.2.size
  go_wp2_with fail
  refine (HD.out.1 (((H.out.below ((Below.refl _ _).alloc (Nat.le_refl _) _)).below hba).below HB4.out)).mono ?_
  rintro e w1 ⟨A_kd, n_kd, c_kd, rfl, o_kd, hb1⟩
  have L_kd := Lib.hid o_kd.lies
  have S_kd := hb1.size
  clear x0 x1 x3
  have x1 := ((((At.box (i := 1) (t := 26) w #[.slice vA vn vc, .int .i64 b, .string s, .slice A n c] rfl).below hba).below HB4.out).below hb1).1
  have x3 := ((((At.box (i := 3) (t := 26) w #[.slice vA vn vc, .int .i64 b, .string s, .slice A n c] rfl).below hba).below HB4.out).below hb1).1
  go_wp2_with fail
  refine (HG.out.1 ((((HZ.out.below ((Below.refl _ _).alloc (Nat.le_refl _) _)).below hba).below HB4.out).below hb1)).mono ?_
  rintro e w2 ⟨A_km, n_km, c_km, rfl, o_km, hb2, l_km⟩
  have L_km := Lib.hid o_km.lies
  have S_km := hb2.size
  clear x1 x3
  go_wp2_with fail
  refine (ten6_ok (N := 7) rfl (by omega)).mono ?_
  rintro e w3 ⟨A_kt, n_kt, c_kt, rfl, o_kt, hb3, l_kt⟩
  have L_kt := Lib.hid o_kt.lies
  have S_kt := hb3.size
  have x1 := ((((((At.box (i := 1) (t := 26) w #[.slice vA vn vc, .int .i64 b, .string s, .slice A n c] rfl).below hba).below HB4.out).below hb1).below hb2).below hb3).1
  go_wp2_with fail
  refine (HD.out.2 (((NA.out.below hb1).below hb2).below hb3)).mono ?_
  rintro e w4 ⟨A_kx, n_kx, c_kx, rfl, o_kx, hb4⟩
  have L_kx := Lib.hid o_kx.lies
  have S_kx := hb4.size
  clear x1
  have x1 := (((((((At.box (i := 1) (t := 26) w #[.slice vA vn vc, .int .i64 b, .string s, .slice A n c] rfl).below hba).below HB4.out).below hb1).below hb2).below hb3).below hb4).1
  go_wp2_with fail
  refine (HD.out.2 ((((NA.out.below hb1).below hb2).below hb3).below hb4)).mono ?_
  rintro e w5 ⟨A_ky, n_ky, c_ky, rfl, o_ky, hb5⟩
  have L_ky := Lib.hid o_ky.lies
  have S_ky := hb5.size
  clear x1
  have x1 := ((((((((At.box (i := 1) (t := 26) w #[.slice vA vn vc, .int .i64 b, .string s, .slice A n c] rfl).below hba).below HB4.out).below hb1).below hb2).below hb3).below hb4).below hb5).1
  go_wp2_with fail
  refine (HG.out.2 (((((ZD.out.below hb1).below hb2).below hb3).below hb4).below hb5)).mono ?_
  rintro e w6 ⟨A_ku, n_ku, c_ku, rfl, o_ku, hb6, l_ku⟩
  have L_ku := Lib.hid o_ku.lies
  have S_ku := hb6.size
  clear x1
  have x1 := (((((((((At.box (i := 1) (t := 26) w #[.slice vA vn vc, .int .i64 b, .string s, .slice A n c] rfl).below hba).below HB4.out).below hb1).below hb2).below hb3).below hb4).below hb5).below hb6).1
  go_wp2_with fail
  refine (HG.out.2 ((((((ZD.out.below hb1).below hb2).below hb3).below hb4).below hb5).below hb6)).mono ?_
  rintro e w7 ⟨A_kv, n_kv, c_kv, rfl, o_kv, hb7, l_kv⟩
  have L_kv := Lib.hid o_kv.lies
  have S_kv := hb7.size
  clear x1
  go_wp2_with fail
  refine (rten_ok (N := 7) rfl (by omega)).mono ?_
  rintro e w8 ⟨A_kw, n_kw, c_kw, rfl, o_kw, hb8, l_kw⟩
  have L_kw := Lib.hid o_kw.lies
  have S_kw := hb8.size
  go_wp2_with fail
  refine (rten_ok (N := 7) rfl (by omega)).mono ?_
  rintro e w9 ⟨A_kz, n_kz, c_kz, rfl, o_kz, hb9, l_kz⟩
  have L_kz := Lib.hid o_kz.lies
  have S_kz := hb9.size
  go_wp2_with fail
  refine (HP.out.1 ((((((((((((HS.out.below ((Below.refl _ _).alloc (Nat.le_refl _) _)).below hba).below HB4.out).below hb1).below hb2).below hb3).below hb4).below hb5).below hb6).below hb7).below hb8).below hb9)).mono ?_
  rintro e w10 ⟨A_kp, n_kp, c_kp, rfl, o_kp, hb10, l_kp⟩
  have L_kp := Lib.hid o_kp.lies
  have S_kp := hb10.size
  go_wp2_with fail
  refine (HP.out.1 (((((((((((((HS.out.below ((Below.refl _ _).alloc (Nat.le_refl _) _)).below hba).below HB4.out).below hb1).below hb2).below hb3).below hb4).below hb5).below hb6).below hb7).below hb8).below hb9).below hb10)).mono ?_
  rintro e w11 ⟨A_kq, n_kq, c_kq, rfl, o_kq, hb11, l_kq⟩
  have L_kq := Lib.hid o_kq.lies
  have S_kq := hb11.size
  go_wp2_with fail
  refine (rformat_any (((((((((((NA.out.below hb1).below hb2).below hb3).below hb4).below hb5).below hb6).below hb7).below hb8).below hb9).below hb10).below hb11) ((((((((((((((HS.out.below ((Below.refl _ _).alloc (Nat.le_refl _) _)).below hba).below HB4.out).below hb1).below hb2).below hb3).below hb4).below hb5).below hb6).below hb7).below hb8).below hb9).below hb10).below hb11) (by omega)).mono ?_
  rintro e w12 ⟨rfl, hb12⟩
  have x1 := (((((((((((((((At.box (i := 1) (t := 26) w #[.slice vA vn vc, .int .i64 b, .string s, .slice A n c] rfl).below hba).below HB4.out).below hb1).below hb2).below hb3).below hb4).below hb5).below hb6).below hb7).below hb8).below hb9).below hb10).below hb11).below hb12).1
  go_wp2_with fail
  refine (HF.out ((((((((((((NA.out.below hb1).below hb2).below hb3).below hb4).below hb5).below hb6).below hb7).below hb8).below hb9).below hb10).below hb11).below hb12) (((((((((((((((HS.out.below ((Below.refl _ _).alloc (Nat.le_refl _) _)).below hba).below HB4.out).below hb1).below hb2).below hb3).below hb4).below hb5).below hb6).below hb7).below hb8).below hb9).below hb10).below hb11).below hb12)).mono ?_
  rintro e w13 ⟨rfl, hb13⟩
  clear x1
  go_wp2_with fail
  refine (HQ.out _ _ _ _ _ (((((((((((((NA.out.below hb1).below hb2).below hb3).below hb4).below hb5).below hb6).below hb7).below hb8).below hb9).below hb10).below hb11).below hb12).below hb13) (((((((((((((NA.out.below hb1).below hb2).below hb3).below hb4).below hb5).below hb6).below hb7).below hb8).below hb9).below hb10).below hb11).below hb12).below hb13) ((((((((((((((((HS.out.below ((Below.refl _ _).alloc (Nat.le_refl _) _)).below hba).below HB4.out).below hb1).below hb2).below hb3).below hb4).below hb5).below hb6).below hb7).below hb8).below hb9).below hb10).below hb11).below hb12).below hb13) (by omega) (by omega)).mono ?_
  rintro e w14 ⟨rfl, hb14⟩
  go_wp2_with fail
  refine (placesx_any ((((((((((((((NA.out.below hb1).below hb2).below hb3).below hb4).below hb5).below hb6).below hb7).below hb8).below hb9).below hb10).below hb11).below hb12).below hb13).below hb14) ((((((((((((((NA.out.below hb1).below hb2).below hb3).below hb4).below hb5).below hb6).below hb7).below hb8).below hb9).below hb10).below hb11).below hb12).below hb13).below hb14) (by omega) (by omega)).mono ?_
  rintro e wp ⟨nx, bx, ex, rfl, hbp, _⟩
  have x3 := (((((((((((((((((((At.box (i := 3) (t := 26) w #[.slice vA vn vc, .int .i64 b, .string s, .slice A n c] rfl).below hba).below HB4.out).below hb1).below hb2).below hb3).below hb4).below hb5).below hb6).below hb7).below hb8).below hb9).below hb10).below hb11).below hb12).below hb13).below hb14).below hbp).below (belowA _ (.cells #[] 3))).1
  have ZP := Lib.hid ((((((((((((((((((HZ.out.below ((Below.refl _ _).alloc (Nat.le_refl _) _)).below hba).below HB4.out).below hb1).below hb2).below hb3).below hb4).below hb5).below hb6).below hb7).below hb8).below hb9).below hb10).below hb11).below hb12).below hb13).below hb14).below hbp)
  have RP := Lib.hid ((((((((((((((((((HR.out.below ((Below.refl _ _).alloc (Nat.le_refl _) _)).below hba).below HB4.out).below hb1).below hb2).below hb3).below hb4).below hb5).below hb6).below hb7).below hb8).below hb9).below hb10).below hb11).below hb12).below hb13).below hb14).below hbp)
  have F0P := Lib.hid ((((((((((((((((((At.box (i := 0) (t := 26) w #[.slice vA vn vc, .int .i64 b, .string s, .slice A n c] rfl).below hba).below HB4.out).below hb1).below hb2).below hb3).below hb4).below hb5).below hb6).below hb7).below hb8).below hb9).below hb10).below hb11).below hb12).below hb13).below hb14).below hbp)
  go_wp2_with (first
    | (at_builtin; (refine wpList_appz rfl (.tmp 138) (.tmp 140) rfl HEI.out (t := 3) (B := wp.heap.size) (xs := []) (ys := zs) rfl rfl (Ownz.lit wp [] rfl (by decide) (Nat.le_refl _)) (ZP.out.below (belowA _ _)) (by omega) (by simp) ?_); intro B5 e5' ws5 ho5 hb5 _; have K5 : Hid (Ownz 3 wp.heap.size ws5 B5 n e5' zs ∧ Below wp.heap.size wp ws5) := ⟨(by simpa using ho5), (belowA _ _).trans hb5⟩; clear ho5 hb5)
    | (at_builtin; (refine wpList_appz rfl (.tmp 141) (.tmp 142) rfl HEI.out (t := 3) (B := wp.heap.size) (xs := zs) (ys := [77, 78]) rfl rfl (K5.out.1.alloc _) (Ownz.lit (t := 3) (B := 0) _ [77, 78] rfl (by decide) (Nat.zero_le _)).rdz (by simp; omega) (by have := K5.out.2.size; simp; omega) ?_); intro B6 e6' ws6 ho6 hb6 _; have K6 : Hid (Ownz 3 wp.heap.size ws6 B6 (n + 2) e6' (zs ++ [77, 78]) ∧ Below wp.heap.size wp ws6) := ⟨ho6, (K5.out.2.alloc K5.out.2.size _).trans hb6⟩; clear ho6 hb6))
  clear x3
  refine (intsz_yes ((((((((((((((((K4.out.1.below hb1).below hb2).below hb3).below hb4).below hb5).below hb6).below hb7).below hb8).below hb9).below hb10).below hb11).below hb12).below hb13).below hb14).below hbp).below K6.out.2).rdz K6.out.1.rdz rfl (by omega)).mono ?_
  rintro e wr1 ⟨rfl, hbr1⟩
  have x0 := (((((((((((((((((((((At.box (i := 0) (t := 26) w #[.slice vA vn vc, .int .i64 b, .string s, .slice A n c] rfl).below hba).below HB4.out).below hb1).below hb2).below hb3).below hb4).below hb5).below hb6).below hb7).below hb8).below hb9).below hb10).below hb11).below hb12).below hb13).below hb14).below hbp).below K6.out.2).below hbr1).below (belowA _ (.cells #[] 28))).1
  have RQ := Lib.hid ((((((((((((((((((((HR.out.below ((Below.refl _ _).alloc (Nat.le_refl _) _)).below hba).below HB4.out).below hb1).below hb2).below hb3).below hb4).below hb5).below hb6).below hb7).below hb8).below hb9).below hb10).below hb11).below hb12).below hb13).below hb14).below hbp).below K6.out.2).below hbr1)
  go_wp2_with (first
    | (at_builtin; (refine wpList_app2g (by rfl) (.tmp 148) (.tmp 150) rfl elN Tryz.underlying23 (t := 28) (k := .u64) (B := wr1.heap.size) (xs := []) (ys := vx) rfl rfl (Own.lit0 wr1 (Nat.le_refl _)) (RQ.out.alloc _) (by omega) (by simp) ?_); intro B7 e7' ws7 ho7 hb7; have K7 : Hid (Own .u64 28 wr1.heap.size ws7 B7 vn e7' vx ∧ Below wr1.heap.size wr1 ws7) := ⟨(by simpa using ho7), (belowA _ _).trans hb7⟩; clear ho7 hb7)
    | (at_builtin; (refine wpList_app2g (by rfl) (.tmp 151) (.tmp 152) rfl elN Tryz.underlying23 (t := 28) (k := .u64) (B := wr1.heap.size) (xs := vx) (ys := [60929, 60930]) rfl rfl (K7.out.1.alloc _) (Rd.litn (k := .u64) (t := 28) _ [60929, 60930] rfl (by decide)) (by simp; omega) (by have := K7.out.2.size; simp; omega) ?_); intro B8 e8' ws8 ho8 hb8; have K8 : Hid (Own .u64 28 wr1.heap.size ws8 B8 (vn + 2) e8' (vx ++ [60929, 60930]) ∧ Below wr1.heap.size wr1 ws8) := ⟨ho8, (K7.out.2.alloc K7.out.2.size _).trans hb8⟩; clear ho8 hb8))
  clear x0
  go_wp2_with fail
  refine (same5_any (((((((((((((((((((K2.out.1.below K4.out.2).below hb1).below hb2).below hb3).below hb4).below hb5).below hb6).below hb7).below hb8).below hb9).below hb10).below hb11).below hb12).below hb13).below hb14).below hbp).below K6.out.2).below hbr1).below K8.out.2).rd K8.out.1.rd rfl (by omega)).mono ?_
  rintro e w15 ⟨rfl, hb15⟩
  have OW := Lib.hid ((((((((((((((((((((K2.out.1.below K4.out.2).below hb1).below hb2).below hb3).below hb4).below hb5).below hb6).below hb7).below hb8).below hb9).below hb10).below hb11).below hb12).below hb13).below hb14).below hbp).below K6.out.2).below hbr1).below K8.out.2).below hb15)
  have OA := Lib.hid (((((((((((((((((((K4.out.1.below hb1).below hb2).below hb3).below hb4).below hb5).below hb6).below hb7).below hb8).below hb9).below hb10).below hb11).below hb12).below hb13).below hb14).below hbp).below K6.out.2).below hbr1).below K8.out.2).below hb15)
  have Okd := Lib.hid ((((((((((((((((((o_kd.below hb2).below hb3).below hb4).below hb5).below hb6).below hb7).below hb8).below hb9).below hb10).below hb11).below hb12).below hb13).below hb14).below hbp).below K6.out.2).below hbr1).below K8.out.2).below hb15)
  have Okm := Lib.hid (((((((((((((((((o_km.below hb3).below hb4).below hb5).below hb6).below hb7).below hb8).below hb9).below hb10).below hb11).below hb12).below hb13).below hb14).below hbp).below K6.out.2).below hbr1).below K8.out.2).below hb15)
  have Okt := Lib.hid ((((((((((((((((o_kt.below hb4).below hb5).below hb6).below hb7).below hb8).below hb9).below hb10).below hb11).below hb12).below hb13).below hb14).below hbp).below K6.out.2).below hbr1).below K8.out.2).below hb15)
  have Okx := Lib.hid (((((((((((((((o_kx.below hb5).below hb6).below hb7).below hb8).below hb9).below hb10).below hb11).below hb12).below hb13).below hb14).below hbp).below K6.out.2).below hbr1).below K8.out.2).below hb15)
  have Oky := Lib.hid ((((((((((((((o_ky.below hb6).below hb7).below hb8).below hb9).below hb10).below hb11).below hb12).below hb13).below hb14).below hbp).below K6.out.2).below hbr1).below K8.out.2).below hb15)
  have Oku := Lib.hid (((((((((((((o_ku.below hb7).below hb8).below hb9).below hb10).below hb11).below hb12).below hb13).below hb14).below hbp).below K6.out.2).below hbr1).below K8.out.2).below hb15)
  have Okv := Lib.hid ((((((((((((o_kv.below hb8).below hb9).below hb10).below hb11).below hb12).below hb13).below hb14).below hbp).below K6.out.2).below hbr1).below K8.out.2).below hb15)
  have Okw := Lib.hid (((((((((((o_kw.below hb9).below hb10).below hb11).below hb12).below hb13).below hb14).below hbp).below K6.out.2).below hbr1).below K8.out.2).below hb15)
  have Okz := Lib.hid ((((((((((o_kz.below hb10).below hb11).below hb12).below hb13).below hb14).below hbp).below K6.out.2).below hbr1).below K8.out.2).below hb15)
  have Okp := Lib.hid (((((((((o_kp.below hb11).below hb12).below hb13).below hb14).below hbp).below K6.out.2).below hbr1).below K8.out.2).below hb15)
  have Okq := Lib.hid ((((((((o_kq.below hb12).below hb13).below hb14).below hbp).below K6.out.2).below hbr1).below K8.out.2).below hb15)
  have HBS := Lib.hid (bt (bt (bt (bt (bt (bt (bt (bt (bt (bt (bt (bt (bt (bt (bt (bt (bt (bt (bt (bt (bt ((Below.refl _ _).alloc (Nat.le_refl _) _) hba) HB4.out) hb1) hb2) hb3) hb4) hb5) hb6) hb7) hb8) hb9) hb10) hb11) hb12) hb13) hb14) hbp) K6.out.2) hbr1) K8.out.2) hb15)
  have SWQ := (bt (bt (bt (bt (bt (bt (bt hb12 hb13) hb14) hbp) K6.out.2) hbr1) K8.out.2) hb15).size
  have hkd : n_kd ≤ 67108864 := by rw [← o_kd.len]; exact HDL.out
  have hkx : n_kx ≤ 67108864 := by rw [← o_kx.len]; exact HDL.out
  have hky : n_ky ≤ 67108864 := by rw [← o_ky.len]; exact HDL.out
  have SA := HB0.out.size
  clear o_kd o_km o_kt o_kx o_ky o_ku o_kv o_kw o_kz o_kp o_kq
  obtain ⟨g, rfl, hg1, hg2⟩ := OW.out.form (by omega)
  have GW := LW.out _ rfl
  obtain ⟨g2, rfl, hg3, hg4⟩ := OA.out.form (by omega)
  have GA := LA.out _ rfl
  go_wp2
  go_loopw [159] (fun iv wr => ∃ (k : Nat) (ys : List Nat), Hid (Own .u64 28 wa.heap.size wr (some ⟨g, 0, none⟩) (vn + 2) e2 ys ∧ Ex (fun j => wa.heap.size ≤ j ∧ j < ws2.heap.size) w15 wr) ∧ k ≤ vn ∧ iv = .int .i64 (k : Int)) (fun iv _ => vn - (intOf iv).toNat)
  case atStart => exact ⟨0, _, ⟨OW.out, Ex.refl _ _⟩, Nat.zero_le _, rfl⟩
  case round =>
    obtain ⟨k, ys, hI, hk, rfl⟩ := hrel
    by_cases hlt : k < vn
    · have hcell := hI.out.1.cell (i := k) (by omega)
      have hfr := hI.out.1.frozen (i := k)
      have i1 : (0 : Int) ≤ (k : Int) := by omega
      have i2 : (k : Int) < (vn : Int) := by omega
      generalize nth ys k = d at hcell
      obtain ⟨e, he, _⟩ := bits_u64 .xor (d : Int) 5
      have HN : Hid (Own .u64 28 wa.heap.size (wr.setCell ⟨g, k, none⟩ (.int .u64 (e : Int))) (some ⟨g, 0, none⟩) (vn + 2) e2 (ys.set k e) ∧ Ex (fun j => wa.heap.size ≤ j ∧ j < ws2.heap.size) w15 (wr.setCell ⟨g, k, none⟩ (.int .u64 (e : Int)))) := ⟨hI.out.1.stored, hI.out.2.trans (Ex.setCell _ _ _ _ GW)⟩
      go_wp2
      go_roundw
      case rel => exact ⟨k + 1, _, HN, by omega, by go_num⟩
      case measure => simp [intOf]; omega
    · obtain rfl : k = vn := by omega
      obtain ⟨wo1, rfl⟩ : ∃ wo1 : World, wo1 = wr := ⟨_, rfl⟩
      have OA1 : Hid (Ownz 3 ws2.heap.size wo1 (some ⟨g2, 0, none⟩) (n + 2) e4' (zs ++ [77, 78]) ∧ Ex (fun j => wa.heap.size ≤ j ∧ j < ws4.heap.size) w15 wo1) := ⟨OA.out.ex hI.out.2 (LA.out.apart (.inr (Nat.le_refl _))), hI.out.2.mono (fun j hj => by omega)⟩
      clear hI
      go_wp2
      go_loopw [173] (fun iv wr => ∃ (k : Nat) (ys : List Int), Hid (Ownz 3 ws2.heap.size wr (some ⟨g2, 0, none⟩) (n + 2) e4' ys ∧ Ex (fun j => wa.heap.size ≤ j ∧ j < ws4.heap.size) w15 wr) ∧ k ≤ n ∧ iv = .int .i64 (k : Int)) (fun iv _ => n - (intOf iv).toNat)
      case atStart => exact ⟨0, _, OA1, Nat.zero_le _, rfl⟩
      case round =>
        obtain ⟨k2, ys, hI, hk, rfl⟩ := hrel
        by_cases hlt : k2 < n
        · have hcell := hI.out.1.cell (i := k2) (by omega)
          have hfr := hI.out.1.frozen (i := k2)
          have i1 : (0 : Int) ≤ (k2 : Int) := by omega
          have i2 : (k2 : Int) < (n : Int) := by omega
          have HN : Hid (Ownz 3 ws2.heap.size (wr.setCell ⟨g2, k2, none⟩ (.int .i64 0)) (some ⟨g2, 0, none⟩) (n + 2) e4' (ys.set k2 0) ∧ Ex (fun j => wa.heap.size ≤ j ∧ j < ws4.heap.size) w15 (wr.setCell ⟨g2, k2, none⟩ (.int .i64 0))) := ⟨hI.out.1.stored, hI.out.2.trans (Ex.setCell _ _ _ _ (by show _ ∧ _; exact ⟨by omega, by omega⟩))⟩
          go_wp2
          go_roundw
          case rel => exact ⟨k2 + 1, _, HN, by omega, by go_num⟩
          case measure => simp [intOf]; omega
        · obtain rfl : k2 = n := by omega
          obtain ⟨wo2, rfl⟩ : ∃ wo2 : World, wo2 = wr := ⟨_, rfl⟩
          have E12 := Lib.hid hI.out.2
          have HB2 : Hid (Below w.heap.size w wo2) := HBS.out.trans (E12.out.below (fun j hj => by omega) HBS.out.size)
          clear hI
          have Nkd := Lib.hid (Okd.out.ex E12.out (L_kd.out.apart (.inr (by omega))))
          have Nkm := Lib.hid (Okm.out.ex E12.out (L_km.out.apart (.inr (by omega))))
          have Nkt := Lib.hid (Okt.out.ex E12.out (L_kt.out.apart (.inr (by omega))))
          have Nkx := Lib.hid (Okx.out.ex E12.out (L_kx.out.apart (.inr (by omega))))
          have Nky := Lib.hid (Oky.out.ex E12.out (L_ky.out.apart (.inr (by omega))))
          have Nku := Lib.hid (Oku.out.ex E12.out (L_ku.out.apart (.inr (by omega))))
          have Nkv := Lib.hid (Okv.out.ex E12.out (L_kv.out.apart (.inr (by omega))))
          have Nkw := Lib.hid (Okw.out.ex E12.out (L_kw.out.apart (.inr (by omega))))
          have Nkz := Lib.hid (Okz.out.ex E12.out (L_kz.out.apart (.inr (by omega))))
          have Nkp := Lib.hid (Okp.out.ex E12.out (L_kp.out.apart (.inr (by omega))))
          have Nkq := Lib.hid (Okq.out.ex E12.out (L_kq.out.apart (.inr (by omega))))
          clear Okd Okm Okt Okx Oky Oku Okv Okw Okz Okp Okq
          go_wp2_with fail
          refine (ints_yes Nkx.out.rd Nkd.out.rd rfl (by omega)).mono ?_
          rintro e w16 ⟨rfl, hb16⟩
          go_wp2_with fail
          refine (ints_yes (Nky.out.below hb16).rd (Nkd.out.below hb16).rd rfl (by omega)).mono ?_
          rintro e w17 ⟨rfl, hb17⟩
          go_wp2_with fail
          refine (same5_any ((Nku.out.below hb16).below hb17).rd ((Nkm.out.below hb16).below hb17).rd rfl (by omega)).mono ?_
          rintro e w18 ⟨rfl, hb18⟩
          go_wp2_with fail
          refine (same5_any (((Nkv.out.below hb16).below hb17).below hb18).rd (((Nkm.out.below hb16).below hb17).below hb18).rd rfl (by omega)).mono ?_
          rintro e w19 ⟨rfl, hb19⟩
          go_wp2_with fail
          refine (same5_any ((((Nkw.out.below hb16).below hb17).below hb18).below hb19).rd ((((Nkt.out.below hb16).below hb17).below hb18).below hb19).rd rfl (by omega)).mono ?_
          rintro e w20 ⟨rfl, hb20⟩
          go_wp2_with fail
          refine (same5_any (((((Nkp.out.below hb16).below hb17).below hb18).below hb19).below hb20).rd (((((Nkq.out.below hb16).below hb17).below hb18).below hb19).below hb20).rd rfl (by omega)).mono ?_
          rintro e w21 ⟨rfl, hb21⟩
          have HBC : Hid (Below w.heap.size w w21) := bt HB2.out (bt (bt (bt (bt (bt hb16 hb17) hb18) hb19) hb20) hb21)
          have Md := Lib.hid ((((((Nkd.out.below hb16).below hb17).below hb18).below hb19).below hb20).below hb21)
          have Mm := Lib.hid ((((((Nkm.out.below hb16).below hb17).below hb18).below hb19).below hb20).below hb21)
          have Mt := Lib.hid ((((((Nkt.out.below hb16).below hb17).below hb18).below hb19).below hb20).below hb21)
          have Mx := Lib.hid ((((((Nkx.out.below hb16).below hb17).below hb18).below hb19).below hb20).below hb21).z
          have My := Lib.hid ((((((Nky.out.below hb16).below hb17).below hb18).below hb19).below hb20).below hb21)
          have Mu := Lib.hid ((((((Nku.out.below hb16).below hb17).below hb18).below hb19).below hb20).below hb21)
          have Mv := Lib.hid ((((((Nkv.out.below hb16).below hb17).below hb18).below hb19).below hb20).below hb21)
          have Mw := Lib.hid ((((((Nkw.out.below hb16).below hb17).below hb18).below hb19).below hb20).below hb21)
          have Mz := Lib.hid ((((((Nkz.out.below hb16).below hb17).below hb18).below hb19).below hb20).below hb21)
          have Mp := Lib.hid ((((((Nkp.out.below hb16).below hb17).below hb18).below hb19).below hb20).below hb21)
          have Mq := Lib.hid ((((((Nkq.out.below hb16).below hb17).below hb18).below hb19).below hb20).below hb21)
          have SZ : w15.heap.size ≤ w21.heap.size := Nat.le_trans E12.out.size (bt (bt (bt (bt (bt hb16 hb17) hb18) hb19) hb20) hb21).size
          clear Nkd Nkm Nkt Nkx Nky Nku Nkv Nkw Nkz Nkp Nkq
          go_wp2
          go_loopw [216] (fun iv wr => ∃ (k : Nat) (ys : List Int), Hid (Ownz 3 w3.heap.size wr A_kx n_kx c_kx ys ∧ Ex (fun j => w3.heap.size ≤ j ∧ j < w4.heap.size) w21 wr) ∧ k ≤ n_kx ∧ iv = .int .i64 (k : Int)) (fun iv _ => n_kx - (intOf iv).toNat)
          case atStart => exact ⟨0, _, ⟨Mx.out, Ex.refl _ _⟩, Nat.zero_le _, rfl⟩
          case round =>
            obtain ⟨k3, ys, hI, hk, rfl⟩ := hrel
            by_cases hlt : k3 < n_kx
            · obtain ⟨gx, egx, hgx1, hgx2⟩ := hI.out.1.form (by omega)
              have GX := L_kx.out _ egx
              subst egx
              have hcell := hI.out.1.cell (i := k3) hlt
              have hfr := hI.out.1.frozen (i := k3)
              have i1 : (0 : Int) ≤ (k3 : Int) := by omega
              have i2 : (k3 : Int) < (n_kx : Int) := by omega
              have HN : Hid (Ownz 3 w3.heap.size (wr.setCell ⟨gx, k3, none⟩ (.int .i64 (-1))) (some ⟨gx, 0, none⟩) n_kx c_kx (ys.set k3 (-1)) ∧ Ex (fun j => w3.heap.size ≤ j ∧ j < w4.heap.size) w21 (wr.setCell ⟨gx, k3, none⟩ (.int .i64 (-1)))) := ⟨hI.out.1.stored, hI.out.2.trans (Ex.setCell _ _ _ _ GX)⟩
              go_wp2
              go_roundw
              case rel => exact ⟨k3 + 1, _, HN, by omega, by go_num⟩
              case measure => simp [intOf]; omega
            · obtain rfl : k3 = n_kx := by omega
              obtain ⟨wx, rfl⟩ : ∃ wx : World, wx = wr := ⟨_, rfl⟩
              clear Mx
              go_wp2_with (at_builtin; (refine wpList_appz rfl (.tmp 223) (.tmp 224) rfl HEI.out (t := 3) (ys := [-2, -2]) rfl rfl (hI.out.1.alloc _) (Ownz.lit (t := 3) (B := 0) _ [-2, -2] rfl (by decide) (Nat.zero_le _)).rdz (by simp; omega) (by have := hI.out.2.size; simp; omega) ?_); intro B9 e9' ws9 ho9 hb9 hg9; have EX := Lib.hid (hI.out.2.appz hI.out.1 L_kx.out hg9); clear ho9 hb9 hg9 hI)
              have EX1 : Hid (Ex (S5 w3.heap.size w4.heap.size w5.heap.size w6.heap.size w7.heap.size w8.heap.size w9.heap.size w10.heap.size) w21 ws9) := EX.out.mono (fun j hj => .inl hj)
              have Lu := Lib.hid (Mu.out.ex EX.out (L_ku.out.apart (.inr (by omega))))
              have Lw := Lib.hid (Mw.out.ex EX.out (L_kw.out.apart (.inr (by omega))))
              have Lp := Lib.hid (Mp.out.ex EX.out (L_kp.out.apart (.inr (by omega))))
              have HL3 := Lib.hid (L3.start (t := 28) (T := 23) rfl Lu.out L_ku.out Lw.out L_kw.out Lp.out L_kp.out (by omega) (by omega) (by omega))
              have SY : w21.heap.size ≤ ws9.heap.size := EX.out.size
              have HK : Hid ((∀ j, j < 3 → pick3 w6.heap.size w8.heap.size w10.heap.size j ≤ ws9.heap.size) ∧ (∀ j k, j < k → k < 3 → pick3 w6.heap.size w8.heap.size w10.heap.size j ≤ pick3 w5.heap.size w7.heap.size w9.heap.size k) ∧ ∀ j, j < 3 → pick3 w5.heap.size w7.heap.size w9.heap.size j ≤ ws9.heap.size) := by
                refine ⟨fun j hj => ?_, fun j k hjk hk => ?_, fun j hj => ?_⟩
                · have : j = 0 ∨ j = 1 ∨ j = 2 := by omega
                  rcases this with rfl | rfl | rfl <;> simp [pick3] <;> omega
                · have : (j = 0 ∧ k = 1) ∨ (j = 0 ∧ k = 2) ∨ (j = 1 ∧ k = 2) := by omega
                  rcases this with ⟨rfl, rfl⟩ | ⟨rfl, rfl⟩ | ⟨rfl, rfl⟩ <;> simp [pick3] <;> omega
                · have : j = 0 ∨ j = 1 ∨ j = 2 := by omega
                  rcases this with rfl | rfl | rfl <;> simp [pick3] <;> omega
              clear Lu Lw Lp EX Mu Mw Mp
              go_loopw [231] (fun iv wr => ∃ i : Nat, Hid (L3 28 ws9.heap.size (pick3 w5.heap.size w7.heap.size w9.heap.size) (pick3 w6.heap.size w8.heap.size w10.heap.size) i wr ∧ Ex (S5 w3.heap.size w4.heap.size w5.heap.size w6.heap.size w7.heap.size w8.heap.size w9.heap.size w10.heap.size) (ws9.alloc (.cells #[.slice A_ku n_ku c_ku, .slice A_kw n_kw c_kw, .slice A_kp n_kp c_kp] 23)) wr) ∧ i ≤ 3 ∧ iv = .int .i64 (i : Int)) (fun iv _ => 3 - (intOf iv).toNat)
              case atStart => exact ⟨0, ⟨HL3.out, Ex.refl _ _⟩, by omega, rfl⟩
              case round =>
                obtain ⟨i, hI, hi, rfl⟩ := hrel
                by_cases hlt : i < 3
                · obtain ⟨wo4, rfl⟩ : ∃ wo4 : World, wo4 = wr := ⟨_, rfl⟩
                  obtain ⟨Al, nl, cl, xl, hcl, hol, hll, hnl⟩ := hI.out.1 i (Nat.le_refl _) hlt
                  have HOL := Lib.hid hol
                  have HLL := Lib.hid hll
                  have hz9 : ws9.heap.size < wo4.heap.size := by have := hI.out.2.size; simp at this; omega
                  have hpk := HK.out.2.2 i hlt
                  have i1 : (0 : Int) ≤ (i : Int) := by omega
                  have i2 : (i : Int) < 3 := by omega
                  clear hol hll
                  go_wp2
                  clear hcl
                  go_loopw [237] (fun iv wr => ∃ (k : Nat) (ys : List Nat), Hid (Own .u64 28 (pick3 w5.heap.size w7.heap.size w9.heap.size i) wr Al nl cl ys ∧ Ex (fun j => pick3 w5.heap.size w7.heap.size w9.heap.size i ≤ j ∧ j < pick3 w6.heap.size w8.heap.size w10.heap.size i) wo4 wr) ∧ k ≤ nl ∧ iv = .int .i64 (k : Int)) (fun iv _ => nl - (intOf iv).toNat)
                  case atStart => exact ⟨0, _, ⟨HOL.out, Ex.refl _ _⟩, Nat.zero_le _, rfl⟩
                  case round =>
                    obtain ⟨k5, ys, hJ, hk, rfl⟩ := hrel
                    by_cases hlt5 : k5 < nl
                    · obtain ⟨gx, egx, hgx1, hgx2⟩ := hJ.out.1.form (by omega)
                      have GX := HLL.out _ egx
                      subst egx
                      have hcell := hJ.out.1.cell (i := k5) hlt5
                      have hfr := hJ.out.1.frozen (i := k5)
                      have i3 : (0 : Int) ≤ (k5 : Int) := by omega
                      have i4 : (k5 : Int) < (nl : Int) := by omega
                      have HN : Hid (Own .u64 28 (pick3 w5.heap.size w7.heap.size w9.heap.size i) (wr.setCell ⟨gx, k5, none⟩ (.int .u64 99)) (some ⟨gx, 0, none⟩) nl cl (ys.set k5 99) ∧ Ex (fun j => pick3 w5.heap.size w7.heap.size w9.heap.size i ≤ j ∧ j < pick3 w6.heap.size w8.heap.size w10.heap.size i) wo4 (wr.setCell ⟨gx, k5, none⟩ (.int .u64 99))) := ⟨hJ.out.1.stored, hJ.out.2.trans (Ex.setCell _ _ _ _ GX)⟩
                      go_wp2
                      go_roundw
                      case rel => exact ⟨k5 + 1, _, HN, by omega, by go_num⟩
                      case measure => simp [intOf]; omega
                    · obtain rfl : k5 = nl := by omega
                      obtain ⟨wo5, rfl⟩ : ∃ wo5 : World, wo5 = wr := ⟨_, rfl⟩
                      go_wp2_with (at_builtin; (refine wpList_app rfl (.tmp 244) (.tmp 245) rfl HEW.out (t := 28) (k := .u64) (ys := [98, 98]) rfl rfl (hJ.out.1.alloc _) (Rd.litn (k := .u64) (t := 28) _ [98, 98] rfl (by decide)) (by simp; omega) (by have := hJ.out.2.size; simp; omega) ?_); intro B10 e10' ws10 ho10 hb10 hg10 _; have EY := Lib.hid (hJ.out.2.app hJ.out.1 HLL.out hg10); have HN : Hid (L3 28 ws9.heap.size (pick3 w5.heap.size w7.heap.size w9.heap.size) (pick3 w6.heap.size w8.heap.size w10.heap.size) (i + 1) ws10 ∧ Ex (S5 w3.heap.size w4.heap.size w5.heap.size w6.heap.size w7.heap.size w8.heap.size w9.heap.size w10.heap.size) (ws9.alloc (.cells #[.slice A_ku n_ku c_ku, .slice A_kw n_kw c_kw, .slice A_kp n_kp c_kp] 23)) ws10) := ⟨hI.out.1.step EY.out HK.out.1 hz9 HK.out.2.1 hlt, hI.out.2.trans (EY.out.mono fun j hj => pick3_S5 hj)⟩; clear ho10 hb10 hg10 hJ)
                      go_roundw
                      case rel => exact ⟨i + 1, HN, by omega, by go_num⟩
                      case measure => simp [intOf]; omega
                · obtain rfl : i = 3 := by omega
                  obtain ⟨wz, rfl⟩ : ∃ wz : World, wz = wr := ⟨_, rfl⟩
                  have E5 := Lib.hid ((EX1.out.trans (Ex.alloc _ _)).trans hI.out.2)
                  have HBZ : Hid (Below w.heap.size w wz) := HBC.out.trans (E5.out.below (fun j hj => by unfold S5 at hj; omega) HBC.out.size)
                  clear hI
                  have Zd := Lib.hid (Md.out.ex E5.out (L_kd.out.apart5 (by omega) (by omega) (by omega) (by omega)))
                  have Zm := Lib.hid (Mm.out.ex E5.out (L_km.out.apart5 (by omega) (by omega) (by omega) (by omega)))
                  have Zt := Lib.hid (Mt.out.ex E5.out (L_kt.out.apart5 (by omega) (by omega) (by omega) (by omega)))
                  have Zy := Lib.hid (My.out.ex E5.out (L_ky.out.apart5 (by omega) (by omega) (by omega) (by omega)))
                  have Zv := Lib.hid (Mv.out.ex E5.out (L_kv.out.apart5 (by omega) (by omega) (by omega) (by omega)))
                  have Zz := Lib.hid (Mz.out.ex E5.out (L_kz.out.apart5 (by omega) (by omega) (by omega) (by omega)))
                  have Zq := Lib.hid (Mq.out.ex E5.out (L_kq.out.apart5 (by omega) (by omega) (by omega) (by omega)))
                  go_wp2_with fail
                  refine (HP.out.2).mono ?_
                  rintro e w22 ⟨A_kr, n_kr, c_kr, rfl, o_kr, hb22, l_kr⟩
                  go_wp2_with fail
                  refine (ints_yes (Zy.out.below hb22).rd (Zd.out.below hb22).rd rfl (by omega)).mono ?_
                  rintro e w23 ⟨rfl, hb23⟩
                  go_wp2_with fail
                  refine (same5_any ((Zv.out.below hb22).below hb23).rd ((Zm.out.below hb22).below hb23).rd rfl (by omega)).mono ?_
                  rintro e w24 ⟨rfl, hb24⟩
                  go_wp2_with fail
                  refine (same5_any (((Zz.out.below hb22).below hb23).below hb24).rd (((Zt.out.below hb22).below hb23).below hb24).rd rfl (by omega)).mono ?_
                  rintro e w25 ⟨rfl, hb25⟩
                  go_wp2_with fail
                  refine (same5_any ((((Zq.out.below hb22).below hb23).below hb24).below hb25).rd (((o_kr.rd.below hb23).below hb24).below hb25) rfl (by omega)).mono ?_
                  rintro e w26 ⟨rfl, hb26⟩
                  have HEND : Hid (Below w.heap.size w w26) := bt HBZ.out (bt (bt (bt (bt hb22 hb23) hb24) hb25) hb26)
                  go_wp2
                  go_ret
                  exact ⟨by simp, HEND.out⟩
end Go.Proofs.YtajoafcondgelaaGreatDoor
