/-
  MulKeeps: its helpers whole, same, apart, mean, ask; mul.Row whose numbers lie apart.
-/
import Derived.Test.YtajoafcondgelaaApart
import Derived.Test.YtajoafcondgelaaPowX
import Derived.Test.YtajoafcondgelaaRowA
import Derived.OpenShut
import Derived.Test.YtajoafcondgelaaSumX
namespace Go.Proofs.Ytajoafcondgelaa
open Go.RowKit
set_option linter.unusedVariables false

/-- headers and what they hold -/
def AllO (t : TypeId) (B : Nat) (w : World) : List (Sh × List Nat) → Prop
  | [] => True
  | p :: l => Own .u64 t B w p.1.1 p.1.2.1 p.1.2.2 p.2 ∧ AllO t B w l
theorem AllO.els {t : TypeId} {B : Nat} {w : World} : ∀ {l : List (Sh × List Nat)}, AllO t B w l → Els t B w (l.map (·.1)) (fun i => (l.map (·.2)).getD i [])
  | [], _ => Els.nil
  | p :: l, ⟨h1, h2⟩ => by
    intro i s hi
    rcases i with _ | i
    · simp at hi; subst hi; simpa using h1
    · have := h2.els i s (by simpa using hi)
      simpa using this
/-- a new list of new numbers, made one behind the other -/
def GLs (w : World) (V : List Nat) (M : Nat) (e : Ending) (w' : World) : Prop :=
  ∃ A c ss F, e = .returned (.slice A V.length c) ∧ w'.ownsRow w.heap.size 23 1 (.slice A V.length c) V.length (ss.map shv) ∧ Els 30 w.heap.size w' ss F ∧ Chain w.heap.size ss w'.heap.size ∧
    (∀ (i : Nat) (s : Sh), ss[i]? = some s → F i = dg W (nth V i) ∧ s.2.1 ≤ M) ∧ Below w.heap.size w w'

set_option maxHeartbeats 1000000 in
/-- the numbers with eight marks behind -/
def marks8 : List Nat := [60928, 60929, 60930, 60931, 60932, 60933, 60934, 60935]
set_option maxHeartbeats 1000000 in
theorem whole3_any {A : Option Addr} {n c : Nat} {xs : List Nat} {w : World} (h : Rd .u64 w A n c xs) (hn : n ≤ 1099511627) :
    Calls Try.prog 5 #[.slice A n c] w (fun e w' => ∃ B q, e = .returned (.slice B (n + 8) q) ∧ Own .u64 30 w.heap.size w' B (n + 8) q (xs ++ marks8) ∧ Below w.heap.size w w') := by
  have H := Lib.hid h
  have HE := Lib.hid elN
  clear h
  go_enter Try.func5, Try.ntmps5
  go_wp2_with (at_builtin; (refine wpList_app rfl (.tmp 5) (.tmp 6) rfl HE.out (t := 30) (k := .u64) (B := w.heap.size) (xs := []) (ys := xs) rfl rfl (Own.lit0 w (Nat.le_refl _)) (H.out.alloc _) (by omega) (by simp) ?_); intro B1 e1 w1 ho1 hb1 _ _; have HO : Hid (Own .u64 30 w.heap.size w1 B1 n e1 xs ∧ Below w.heap.size w w1) := ⟨(by simpa using ho1), (belowA _ _).trans hb1⟩; clear ho1 hb1)
  go_loopw [3, 4] (fun v i wr => ∃ (k : Nat) (B : Option Addr) (q : Nat), Hid (Own .u64 30 w.heap.size wr B (n + k) q (xs ++ marks8.take k) ∧ Below w.heap.size w wr) ∧ k ≤ 8 ∧ v = .slice B (n + k) q ∧ i = .int .i64 (k : Int)) (fun _ i _ => 8 - (intOf i).toNat)
  case atStart => exact ⟨0, _, _, ⟨by simpa using HO.out.1, HO.out.2⟩, by omega, rfl, rfl⟩
  case round =>
    obtain ⟨k, B, q, hI, hk, rfl, rfl⟩ := hrel
    by_cases hlt : k < 8
    · obtain ⟨e, he⟩ : ∃ e : Nat, e = 60928 + k := ⟨_, rfl⟩
      have he1 : (60928 : Int) + (k : Int) = (e : Int) := by omega
      have HT : Hid (marks8.take (k + 1) = marks8.take k ++ [e]) := by
        show _ = _
        have : ∀ k, k < 8 → marks8.take (k + 1) = marks8.take k ++ [60928 + k] := by decide
        rw [he, this k hlt]
      have i1 : (0 : Int) ≤ (e : Int) := by omega
      have i2 : (e : Int) ≤ 70000 := by omega
      clear he
      go_wp2_with (at_builtin; (refine wpList_app rfl (.tmp 12) (.tmp 16) rfl HE.out (t := 30) (k := .u64) (B := w.heap.size) (ys := [e]) rfl rfl (hI.out.1.alloc _) (Rd.lit1 wr e) (by omega) (by have := hI.out.2.size; simp; omega) ?_); intro B3 e3 w3 ho3 hb3 _ _; have HN : Hid (Own .u64 30 w.heap.size w3 B3 (n + (k + 1)) e3 (xs ++ marks8.take (k + 1)) ∧ Below w.heap.size w w3) := ⟨by rw [HT.out, ← List.append_assoc]; exact ho3, (hI.out.2.alloc hI.out.2.size _).trans hb3⟩; clear ho3 hb3 hI HT)
      go_roundw
      case rel => exact ⟨k + 1, _, _, HN, by omega, by rw [Nat.add_assoc], by go_num⟩
      case measure => simp [intOf]; omega
    · obtain rfl : k = 8 := by omega
      go_wp2
      go_ret
      exact ⟨_, _, rfl, hI.out.1, hI.out.2⟩

set_option maxHeartbeats 1000000 in
/-- list by list -/
theorem sameL3_yes {A A2 : Option Addr} {n c c2 : Nat} {ss ss2 : List Sh} {F : Nat → List Nat} {w : World} (h : RdV w A n c (ss.map shv)) (h' : RdV w A2 n c2 (ss2.map shv))
    (hF : ∀ (i : Nat) (s : Sh), ss[i]? = some s → Rd .u64 w s.1 s.2.1 s.2.2 (F i)) (hF' : ∀ (i : Nat) (s : Sh), ss2[i]? = some s → Rd .u64 w s.1 s.2.1 s.2.2 (F i)) (hM : ∀ (i : Nat) (s : Sh), ss[i]? = some s → s.2.1 ≤ 1099511627776) (hn : n ≤ 1048576) :
    Calls Try.prog 8 #[.slice A n c, .slice A2 n c2] w (Keeps (.bool true) w) := by
  have H := Lib.hid h
  have H' := Lib.hid h'
  have HF := Lib.hid hF
  have HF' := Lib.hid hF'
  have HM := Lib.hid hM
  clear h h' hF hF' hM
  go_enter Try.func8, Try.ntmps8
  go_wp2
  go_loopw [13] (fun iv wr => ∃ k : Nat, Hid (Below w.heap.size w wr) ∧ k ≤ n ∧ iv = .int .i64 (k : Int)) (fun iv _ => n - (intOf iv).toNat)
  case atStart => exact ⟨0, Below.refl _ _, Nat.zero_le _, rfl⟩
  case round =>
    obtain ⟨k, hI, hk, rfl⟩ := hrel
    by_cases hlt : k < n
    · have hl1 : (ss.map shv).length = n := H.out.1.1
      have hl2 : (ss2.map shv).length = n := H'.out.1.1
      rw [List.length_map] at hl1 hl2
      obtain ⟨s, hs⟩ : ∃ s, ss[k]? = some s := ⟨_, List.getElem?_eq_getElem (by omega)⟩
      obtain ⟨s2, hs2⟩ : ∃ s2, ss2[k]? = some s2 := ⟨_, List.getElem?_eq_getElem (by omega)⟩
      obtain ⟨b, off, rfl, hb, hc⟩ := H.out.2 (by omega)
      obtain ⟨b2, off2, rfl, hb2, hc2⟩ := H'.out.2 (by omega)
      have C1 : w.cell? ⟨b, off + k, none⟩ = some (shv s) := by rw [hc k hlt, List.getElem?_map, hs]; rfl
      have C2 : w.cell? ⟨b2, off2 + k, none⟩ = some (shv s2) := by rw [hc2 k hlt, List.getElem?_map, hs2]; rfl
      have R1 := Lib.hid (HF.out k s hs)
      have R2 := Lib.hid (HF'.out k s2 hs2)
      have M1 := HM.out k s hs
      clear hc hc2 hs hs2 hl1 hl2
      obtain ⟨A1, n1, c1⟩ := s
      obtain ⟨A3, n3, c3⟩ := s2
      have e1 : At wr ⟨b, off + k, none⟩ (.slice A1 n1 c1) := ⟨(hI.out.cell (p := ⟨b, off + k, none⟩) hb).trans C1, Nat.lt_of_lt_of_le hb hI.out.size⟩
      have e2 : At wr ⟨b2, off2 + k, none⟩ (.slice A3 n3 c3) := ⟨(hI.out.cell (p := ⟨b2, off2 + k, none⟩) hb2).trans C2, Nat.lt_of_lt_of_le hb2 hI.out.size⟩
      have g1 := At.grow e1
      have g2 := At.grow e2
      have f1 := e1.1
      have f2 := e2.1
      have i1 : (0 : Int) ≤ (k : Int) := by omega
      have i2 : (k : Int) < (n : Int) := by omega
      clear C1 C2 e1 e2
      go_wp2_with fail
      refine wp_region_grow none [(true, 0), (true, 1), (true, 2), (true, 3), (true, 4), (true, 5), (true, 6), (true, 7), (false, 8), (true, 9)] (by kernel_rfl) (by kernel_rfl) ?_
      repeat (refine ord_pas (by rfl) (fun K hK => ?_); go_simp; refine hK _ _ (fun w' hw' => (by first | (go_simp; done) | (go_simp; intro hh; cases hh))) ?_; clear hK K)
      clear g1 g2 f1 f2
      (refine ord_call (by rfl) (fun K hK => ?_); go_simp; refine hK _ _ ?_; clear hK K)
      refine (same3_yes (R1.out.below (bt hI.out (below_drewN _ 1))) (R2.out.below (bt hI.out (below_drewN _ 1))) rfl M1).mono ?_
      rintro e w3 ⟨rfl, hb3⟩
      refine ⟨_, rfl, (Grow.of_below hb3), ?_⟩
      (refine ord_norm (fun K hK => ?_); go_simp; refine hK _ ?_; clear hK K)
      repeat (refine ord_pas (by rfl) (fun K hK => ?_); go_simp; refine hK _ _ (fun w' hw' => (by first | (go_simp; done) | (go_simp; intro hh; cases hh))) ?_; clear hK K)
      refine ord_nil ?_
      have HN : Hid (Below w.heap.size w w3) := bt (bt hI.out (below_drewN _ 1)) hb3
      clear hI hb3
      go_wp2
      go_roundw
      case rel => exact ⟨k + 1, HN, by omega, by go_num⟩
      case measure => simp [intOf]; omega
    · obtain rfl : k = n := by omega
      go_wp2
      go_ret
      exact ⟨rfl, hI.out⟩

theorem own_blk {A : Option Addr} {n c q : Nat} (h : (Value.slice A n c).ownBlock = some q) : ∃ a, A = some a ∧ a.block = q := by
  cases A with
  | none => cases h
  | some a => injection h with h; exact ⟨a, rfl, h⟩
theorem Els.keepF {t : TypeId} {B : Nat} {w : World} {ss : List Sh} {G : Nat → List Nat} {k : Nat} (h : Els t B w ss (fun j => if j = k then G k else G j)) : Els t B w ss G := h.imp (fun i _ => by by_cases hi : i = k <;> simp [hi])
/-- the marks of list i -/
def Mkd (i : Nat) (xs : List Nat) (j : Nat) : Prop := ∀ q, q < j → nth xs q = 1000 * i + q
set_option maxHeartbeats 4000000 in
set_option maxRecDepth 100000 in
theorem apart3_any {A : Option Addr} {n c B M : Nat} {ss : List Sh} {F : Nat → List Nat} {w : World} (h : RdV w A n c (ss.map shv)) (hE : Els 30 B w ss F) (hA : Apt ss) (hrow : ∀ a, A = some a → ¬ Blk ss a.block)
    (hM : ∀ (i : Nat) (s : Sh), ss[i]? = some s → s.2.1 ≤ 67108864) (hn : n ≤ 1048576) (hB : B ≤ w.heap.size) :
    Calls Try.prog 13 #[.slice A n c] w (fun e w' => e = .returned (.bool true) ∧ Ex (Blk ss) w w') := by
  have hl : ss.length = n := by have := h.1.1; rwa [List.length_map] at this
  have HC : Hid (∀ (S : World) (k : Nat), Ex (Blk ss) w S → k < n → ∃ b off s, A = some ⟨b, off, none⟩ ∧ ss[k]? = some s ∧ b < S.heap.size ∧ S.cell? ⟨b, off + k, none⟩ = some (shv s)) := by
    intro S k hx hk
    obtain ⟨b, off, e, hb, hc⟩ := (h.ex hx hrow).2 (by omega)
    obtain ⟨s, hs⟩ : ∃ s, ss[k]? = some s := ⟨_, List.getElem?_eq_getElem (by omega)⟩
    exact ⟨b, off, s, e, hs, hb, by rw [hc k hk, List.getElem?_map, hs]; rfl⟩
  have H := Lib.hid h
  have HE := Lib.hid hE
  have HA := Lib.hid hA
  have HR := Lib.hid hrow
  have HM := Lib.hid hM
  have HEW := Lib.hid elN
  clear h hE hA hrow hM hl
  go_enter Try.func13, Try.ntmps13
  go_wp2
  go_loopw [10] (fun iv wr => ∃ (k : Nat) (G : Nat → List Nat), Hid (Els 30 B wr ss G ∧ (∀ (i : Nat) (s : Sh), i < k → ss[i]? = some s → Mkd i (G i) s.2.1) ∧ Ex (Blk ss) w wr) ∧ k ≤ n ∧ iv = .int .i64 (k : Int)) (fun iv _ => n - (intOf iv).toNat)
  case atStart => exact ⟨0, F, ⟨HE.out, fun i s hi => absurd hi (Nat.not_lt_zero i), Ex.refl _ _⟩, Nat.zero_le _, rfl⟩
  case round =>
    obtain ⟨k, G, hI, hk, rfl⟩ := hrel
    obtain ⟨wo, rfl⟩ : ∃ wo : World, wo = wr := ⟨_, rfl⟩
    by_cases hlt : k < n
    · obtain ⟨b, off, ⟨A1, n1, c1⟩, ea, hs, hb, hc⟩ := HC.out wo k hI.out.2.2 hlt
      have HS := Lib.hid hs
      have hn1 := HM.out k _ hs
      simp only at hn1
      have hc1 : wo.cell? ⟨b, off + k, none⟩ = some (.slice A1 n1 c1) := hc
      have HC1 := Lib.hid hc1
      have HEA := Lib.hid ea
      have i1 : (0 : Int) ≤ (k : Int) := by omega
      have i2 : (k : Int) < (n : Int) := by omega
      have i3 : (k : Int) ≤ 1048576 := by omega
      subst ea
      clear hs hc
      go_wp2
      clear hc1
      go_loopw [18] (fun iv wr => ∃ (j : Nat) (ys : List Nat), Hid (Own .u64 30 B wr A1 n1 c1 ys ∧ Mkd k ys j ∧ Ex (fun q => ∃ a, A1 = some a ∧ a.block = q) wo wr) ∧ j ≤ n1 ∧ iv = .int .i64 (j : Int)) (fun iv _ => n1 - (intOf iv).toNat)
      case atStart => exact ⟨0, _, ⟨hI.out.1 k _ HS.out, fun q hq => absurd hq (Nat.not_lt_zero q), Ex.refl _ _⟩, Nat.zero_le _, rfl⟩
      case round =>
        obtain ⟨j, ys, hJ, hj, rfl⟩ := hrel
        by_cases hltj : j < n1
        · obtain ⟨g, eg, hg1, hg2⟩ := hJ.out.1.form (by omega)
          have hrc : wr.cell? ⟨b, off + k, none⟩ = some (.slice A1 n1 c1) := by
            rw [← HC1.out]
            exact World.cell?_of_block (w := wo) (hJ.out.2.2.block b hb (fun e => HR.out _ rfl (blk_of HS.out e)))
          have hlen := hJ.out.1.len
          subst eg
          have hcell := hJ.out.1.cell (i := j) hltj
          have hfr := hJ.out.1.frozen (i := j)
          generalize nth ys j = d at hcell
          obtain ⟨e, he⟩ : ∃ e : Nat, e = 1000 * k + j := ⟨_, rfl⟩
          have he1 : 1000 * (k : Int) + (j : Int) = (e : Int) := by omega
          have i4 : (0 : Int) ≤ (j : Int) := by omega
          have i5 : (j : Int) < (n1 : Int) := by omega
          have i6 : (0 : Int) ≤ (e : Int) := by omega
          have i7 : (e : Int) ≤ 1200000000 := by omega
          have HN : Hid (Own .u64 30 B (wr.setCell ⟨g, j, none⟩ (.int .u64 (e : Int))) (some ⟨g, 0, none⟩) n1 c1 (ys.set j e) ∧ Mkd k (ys.set j e) (j + 1) ∧ Ex (fun q => ∃ a, (some ⟨g, 0, none⟩ : Option Addr) = some a ∧ a.block = q) wo (wr.setCell ⟨g, j, none⟩ (.int .u64 (e : Int)))) := by
            refine ⟨hJ.out.1.stored, fun q hq => ?_, hJ.out.2.2.trans (Ex.setCell _ _ _ _ ⟨_, rfl, rfl⟩)⟩
            by_cases hqj : q = j
            · subst hqj; rw [nth_set_eq (by rw [hlen]; exact hltj), he]
            · rw [nth_set_ne (by omega)]; exact hJ.out.2.1 q (by omega)
          clear he hlen
          go_wp2
          go_roundw
          case rel => exact ⟨j + 1, _, HN, by omega, by go_num⟩
          case measure => simp [intOf]; omega
        · obtain rfl : j = n1 := by omega
          have HN : Hid (Els 30 B wr ss (fun i => if i = k then ys else G i) ∧ (∀ (i : Nat) (s : Sh), i < k + 1 → ss[i]? = some s → Mkd i ((fun i => if i = k then ys else G i) i) s.2.1) ∧ Ex (Blk ss) w wr) := by
            refine ⟨hI.out.1.write HA.out HS.out hJ.out.2.2 hJ.out.1, fun i s hi hs => ?_, hI.out.2.2.trans (hJ.out.2.2.mono fun q hq => blk_of HS.out hq)⟩
            by_cases hik : i = k
            · subst hik
              rw [HS.out] at hs
              injection hs with hs
              subst hs
              simpa using hJ.out.2.1
            · simp only [if_neg hik]
              exact hI.out.2.1 i s (by omega) hs
          clear hI hJ
          go_wp2
          go_roundw
          case rel => exact ⟨k + 1, _, HN, by omega, by go_num⟩
          case measure => simp [intOf]; omega
    · obtain rfl : k = n := by omega
      have HG := Lib.hid hI.out.2.1
      have HI2 : Hid (Els 30 B wo ss G ∧ Ex (Blk ss) w wo) := ⟨hI.out.1, hI.out.2.2⟩
      clear hI
      go_wp2
      go_loopw [36] (fun iv wr => ∃ k2 : Nat, Hid (Els 30 B wr ss G ∧ Ex (Blk ss) w wr) ∧ k2 ≤ k ∧ iv = .int .i64 (k2 : Int)) (fun iv _ => k - (intOf iv).toNat)
      case atStart => exact ⟨0, HI2, Nat.zero_le _, rfl⟩
      case round =>
        obtain ⟨k2, hI, hk2, rfl⟩ := hrel
        by_cases hlt2 : k2 < k
        · obtain ⟨b, off, ⟨A1, n1, c1⟩, ea, hs, hb, hc⟩ := HC.out wr k2 hI.out.2 hlt2
          have HS := Lib.hid hs
          have hn1 := HM.out k2 _ hs
          simp only at hn1
          have hc1 : wr.cell? ⟨b, off + k2, none⟩ = some (.slice A1 n1 c1) := hc
          obtain ⟨v1, w1, hr1, ho1, hg1⟩ := app_keeps (w := wr.alloc (.cells #[.int .u64 7] 30)) (ad := ⟨wr.heap.size, 0, none⟩) (m := 1) (c2 := 1) (ys := [7]) 23 HEW.out ((hI.out.1 k2 _ hs).alloc _) (Rd.lit1 (t := 30) wr 7) (by omega) (by simp only; omega) (by have := hI.out.2.size; simp; omega)
          have E1 : Hid (Ex (fun q => ∃ a, A1 = some a ∧ a.block = q) wr w1) := (Ex.alloc _ _).trans (Ex.grown hg1 fun q hq => own_blk hq)
          have HB1 : Hid (B ≤ w1.heap.size) := by have h1 := hI.out.2.size; have h2 := E1.out.size; show _ ≤ _; omega
          obtain ⟨v2, w2, hr2, ho2, hg2⟩ := appZ_keeps (w := w1) (m := 40) 23 HEW.out Try.underlying3 ho1 (by omega) (by omega) (by simp only; omega) HB1.out
          have E2 : Hid (Ex (fun q => ∃ a, A1 = some a ∧ a.block = q) wr w2) := E1.out.trans (Ex.grown hg2 fun q hq => own_blk hq)
          have hc2 : w1.cell? ⟨b, off + k2, none⟩ = some (.slice A1 n1 c1) := by
            rw [← hc1]
            exact World.cell?_of_block (w := wr) (E1.out.block b hb (fun e => HR.out _ ea (blk_of hs e)))
          have HN : Hid (Els 30 B w2 ss G ∧ Ex (Blk ss) w w2) := ⟨(hI.out.1.write HA.out hs E2.out ho2).keepF, hI.out.2.trans (E2.out.mono fun q hq => blk_of hs hq)⟩
          have R1 := Lib.hid hr1
          have R2 := Lib.hid hr2
          have i1 : (0 : Int) ≤ (k2 : Int) := by omega
          have i2 : (k2 : Int) < (k : Int) := by omega
          subst ea
          clear hs hc hr1 hr2 ho1 ho2 hg1 hg2
          go_wp2_with (first
            | (at_builtin; refine Lib.wpList_append_run _ rfl (.tmp 42) (.tmp 43) 23 23 rfl _ _ rfl rfl _ _ R1.out ?_)
            | (at_builtin; refine Lib.wpList_append_run _ rfl (.tmp 48) (.const (.int .i64 40)) 23 3 rfl _ _ rfl rfl _ _ R2.out ?_))
          go_roundw
          case rel => exact ⟨k2 + 1, HN, by omega, by go_num⟩
          case measure => simp [intOf]; omega
        · obtain rfl : k2 = k := by omega
          obtain ⟨wp, rfl⟩ : ∃ wp : World, wp = wr := ⟨_, rfl⟩
          go_wp2
          go_loop [53] (fun iv => ∃ k3 : Nat, k3 ≤ k2 ∧ iv = .int .i64 (k3 : Int)) (fun iv => k2 - (intOf iv).toNat)
          case atStart => exact ⟨0, Nat.zero_le _, rfl⟩
          case round =>
            obtain ⟨k3, hk3, rfl⟩ := hrel
            by_cases hlt3 : k3 < k2
            · obtain ⟨b, off, ⟨A1, n1, c1⟩, ea, hs, hb, hc⟩ := HC.out wp k3 hI.out.2 hlt3
              have hn1 := HM.out k3 _ hs
              simp only at hn1
              have hc1 : wp.cell? ⟨b, off + k3, none⟩ = some (.slice A1 n1 c1) := hc
              have HO1 := Lib.hid (hI.out.1 k3 _ hs)
              have HK1 := Lib.hid (HG.out k3 _ hlt3 hs)
              have i1 : (0 : Int) ≤ (k3 : Int) := by omega
              have i2 : (k3 : Int) < (k2 : Int) := by omega
              have i3 : (k3 : Int) ≤ 1048576 := by omega
              subst ea
              clear hs hc
              go_wp2
              go_loop [61] (fun iv => ∃ j : Nat, j ≤ n1 ∧ iv = .int .i64 (j : Int)) (fun iv => n1 - (intOf iv).toNat)
              case atStart => exact ⟨0, Nat.zero_le _, rfl⟩
              case round =>
                obtain ⟨j, hj, rfl⟩ := hrel
                by_cases hltj : j < n1
                · obtain ⟨g, eg, hg1, hg2⟩ := HO1.out.form (by omega)
                  subst eg
                  have hcell := HO1.out.cell (i := j) hltj
                  rw [HK1.out j hltj] at hcell
                  obtain ⟨e, he⟩ : ∃ e : Nat, e = 1000 * k3 + j := ⟨_, rfl⟩
                  rw [← he] at hcell
                  have he1 : 1000 * (k3 : Int) + (j : Int) = (e : Int) := by omega
                  have i4 : (0 : Int) ≤ (j : Int) := by omega
                  have i5 : (j : Int) < (n1 : Int) := by omega
                  have i6 : (0 : Int) ≤ (e : Int) := by omega
                  have i7 : (e : Int) ≤ 1200000000 := by omega
                  clear he
                  go_wp2
                  go_round
                  case rel => exact ⟨j + 1, by omega, by go_num⟩
                  case measure => simp [intOf]; omega
                · obtain rfl : j = n1 := by omega
                  go_wp2
                  go_round
                  case rel => exact ⟨k3 + 1, by omega, by go_num⟩
                  case measure => simp [intOf]; omega
            · obtain rfl : k3 = k2 := by omega
              go_wp2
              go_ret
              exact ⟨rfl, hI.out.2⟩
end Go.Proofs.Ytajoafcondgelaa
