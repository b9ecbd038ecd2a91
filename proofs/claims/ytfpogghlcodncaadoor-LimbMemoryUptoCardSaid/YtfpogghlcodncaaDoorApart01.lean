/-
  surdlaw01.apart: lists that lie apart stay so when they are written and grow.
-/
import Derived.Test.YtfpogghlcodncaaDoorApart2
import Derived.Test.YtfpogghlcodncaaDoorFixed
import Derived.Test.YtfpogghlcodncaaDoorSumX
namespace Go.Proofs.YtfpogghlcodncaaDoor
open Go.RowKit
set_option linter.unusedVariables false

theorem wrap_u64n (x : Int) : ∃ e : Nat, IntKind.u64.wrap x = (e : Int) ∧ e < W := by
  have h := wf_wrap .u64 x
  have h2 : IntKind.u64.min ≤ IntKind.u64.wrap x ∧ IntKind.u64.wrap x ≤ IntKind.u64.max := by simpa [Lit.wf] using h
  have e1 : IntKind.u64.min = 0 := by decide
  have e2 : IntKind.u64.max = 18446744073709551615 := by decide
  exact ⟨(IntKind.u64.wrap x).toNat, by omega, by rw [W_eq]; omega⟩
theorem elTT : ElemS Tryd.prog 27 23 := ⟨Tryd.underlying27, by kernel_rfl⟩
theorem elT1 : Elem Tryd.prog 23 22 .u64 := ⟨Tryd.underlying23, by kernel_rfl⟩
set_option maxHeartbeats 8000000 in
set_option maxRecDepth 100000 in
theorem apart01_any {A : Option Addr} {n c B : Nat} {ss : Nat → Sh} {F : Nat → List Nat} {col : Nat → Nat} {w : World} (h : RdV w A n c ((List.range n).map fun j => shv (ss j))) (hE : ∀ j, j < n → OwnS 22 B w (ss j) (F j) ∧ HasCol col (ss j) (2 * j))
    (hrow : ∀ a, A = some a → ∀ j, j < n → ¬ Own1 (ss j) a.block) (hM : ∀ j, j < n → (ss j).2.1 ≤ 67108864) (hn : n ≤ 1048576) (hB : B ≤ w.heap.size) :
    Calls Tryd.prog 9 #[.slice A n c] w (fun e w' => e = .returned (.bool true) ∧ Ex (fun b => (∃ j, j < n ∧ Own1 (ss j) b) ∨ w.heap.size ≤ b) w w') := by
  have HC : Hid (∀ (S : World) (k : Nat), Ex (fun b => (∃ j, j < n ∧ Own1 (ss j) b) ∨ w.heap.size ≤ b) w S → k < n → ∃ b off, A = some ⟨b, off, none⟩ ∧ b < S.heap.size ∧ b < w.heap.size ∧ S.cell? ⟨b, off + k, none⟩ = some (shv (ss k))) := by
    intro S k hx hk
    obtain ⟨b0, off0, e0, hb0, _⟩ := h.2 (by omega)
    obtain ⟨b, off, e, hb, hc⟩ := (h.ex hx (fun a ea hs => by
      subst e0
      injection ea with ea
      subst ea
      rcases hs with ⟨j, hj, hs⟩ | hs
      · exact hrow _ rfl j hj hs
      · simp only at hs; omega)).2 (by omega)
    refine ⟨b, off, e, hb, ?_, by rw [hc k hk, List.getElem?_map, List.getElem?_range hk]; rfl⟩
    rw [e0] at e; injection e with e; injection e with e1 _ _; omega
  have HE := Lib.hid hE
  have HM := Lib.hid hM
  have HTT := Lib.hid elTT
  have HT1 := Lib.hid elT1
  clear h hE hrow hM
  go_enter Tryd.func9, Tryd.ntmps9
  go_wp2
  go_loopw [3, 5, 6] (fun v3 v5 v6 wr => ∃ (i mk : Nat) (Bw : Option Addr) (q : Nat) (ws : Nat → Sh) (G : Nat → List Nat) (col : Nat → Nat), Hid (J1 22 B w.heap.size wr n i ss ws G col ∧ RowV 23 w.heap.size wr Bw i q ((List.range i).map fun j => shv (ws j)) ∧ Ex (fun b => (∃ j, j < n ∧ Own1 (ss j) b) ∨ w.heap.size ≤ b) w wr ∧ (∀ j, j < i → (ws j).2.1 = (ss j).2.1)) ∧ i ≤ n ∧ v3 = .slice Bw i q ∧ v5 = .int .u64 (mk : Int) ∧ v6 = .int .i64 (i : Int)) (fun _ _ v6 _ => n - (intOf v6).toNat)
  case atStart => exact ⟨0, 900, none, 0, ss, F, col, ⟨⟨HE.out, fun j hj => absurd hj (Nat.not_lt_zero j)⟩, RowV.nil, Ex.refl _ _, fun j hj => absurd hj (Nat.not_lt_zero j)⟩, Nat.zero_le _, rfl, rfl, rfl⟩
  case round =>
    obtain ⟨i, mk, Bw, q, ws, G, col, hI, hi, rfl, rfl, rfl⟩ := hrel
    obtain ⟨wo, rfl⟩ : ∃ wo : World, wo = wr := ⟨_, rfl⟩
    by_cases hlt : i < n
    · have i1 : (0 : Int) ≤ (i : Int) := by omega
      have i2 : (i : Int) < (n : Int) := by omega
      have hni := HM.out i hlt
      obtain ⟨Ai, ni, ci, hsi⟩ : ∃ Ai ni ci, ss i = (Ai, ni, ci) := ⟨_, _, _, rfl⟩
      rw [hsi] at hni
      have HSI := Lib.hid hsi
      clear hsi
      go_wp2
      go_loopw [5, 7, 8] (fun v5 v7 v8 wr => ∃ (k mk : Nat) (D : Option Addr) (p : Nat) (G : Nat → List Nat) (col : Nat → Nat), Hid (J1 22 B w.heap.size wr n i ss ws G col ∧ OwnS 22 w.heap.size wr (D, k, p) ((G i).take k) ∧ HasCol col (D, k, p) (2 * i + 1) ∧ RowV 23 w.heap.size wr Bw i q ((List.range i).map fun j => shv (ws j)) ∧ Ex (fun b => (∃ j, j < n ∧ Own1 (ss j) b) ∨ w.heap.size ≤ b) w wr) ∧ k ≤ ni ∧ v5 = .int .u64 (mk : Int) ∧ v7 = .slice D k p ∧ v8 = .int .i64 (k : Int)) (fun _ _ v8 _ => ni - (intOf v8).toNat)
      case atStart => exact ⟨0, mk, none, 0, G, col, ⟨hI.out.1, by simpa using Own.nil, HasCol.none, hI.out.2.1, hI.out.2.2.1⟩, Nat.zero_le _, rfl, rfl, rfl⟩
      case round =>
        obtain ⟨k, mk, D, p, G, col, hJ, hk, rfl, rfl, rfl⟩ := hrel
        obtain ⟨b, off, ea, hb, hbw, hc⟩ := HC.out wr i hJ.out.2.2.2.2 hlt
        rw [HSI.out] at hc
        have hc1 : wr.cell? ⟨b, off + i, none⟩ = some (.slice Ai ni ci) := hc
        subst ea
        clear hc
        by_cases hltk : k < ni
        · have HO : Hid (Own .u64 22 B wr Ai ni ci (G i)) := by have := (hJ.out.1.1 i hlt).1; rw [HSI.out] at this; exact this
          obtain ⟨g, eg, hg1, hg2⟩ := HO.out.form (by omega)
          have HSG : Hid (ss i = (some ⟨g, 0, none⟩, ni, ci)) := HSI.out.trans (by rw [eg])
          subst eg
          have hcell := HO.out.cell (i := k) hltk
          have hfr := HO.out.frozen (i := k)
          have hln := HO.out.len
          generalize nth (G i) k = d at hcell
          obtain ⟨e, he, _⟩ := wrap_u64n ((mk : Int) + 1)
          have he1 := lay he
          have i4 : (0 : Int) ≤ (k : Int) := by omega
          have i5 : (k : Int) < (ni : Int) := by omega
          have E1 : Hid (Ex (Own1 (ss i)) wr (wr.setCell ⟨g, k, none⟩ (.int .u64 (e : Int)))) := Ex.setCell _ _ _ _ ⟨_, by rw [HSG.out], rfl⟩
          have JA := Lib.hid ((hJ.out.1.write hlt E1.out (ys := (G i).set k e) (by rw [HSG.out]; exact HO.out.stored)).below (belowA _ (.cells #[.int .u64 (e : Int)] 22)))
          have OD := Lib.hid ((keep_own hJ.out.2.1 hJ.out.2.2.1 (hJ.out.1.1 i hlt).2 (by omega) E1.out).alloc (.cells #[.int .u64 (e : Int)] 22))
          have RW := Lib.hid ((keep_row hJ.out.2.2.2.1 (hJ.out.1.1 i hlt).1 (by decide) E1.out).below (belowA _ (.cells #[.int .u64 (e : Int)] 22)))
          have hsz : w.heap.size ≤ (wr.setCell ⟨g, k, none⟩ (.int .u64 (e : Int))).heap.size := Nat.le_trans hJ.out.2.2.2.2.size E1.out.size
          obtain ⟨⟨D', k', p'⟩, w3, hr3, hn3, ho3, _, _, hgr3, hfr3⟩ := kin_app (s := (none, 0, 0)) (G := []) (B2 := 0) (e := (G i).take k) (g := (D, k, p)) (ad := ⟨wr.heap.size, 0, none⟩) (c2 := 1) (x := e) 23 HT1.out Own.nil (by simpa using OD.out) (.inr (fun a b h1 => by cases h1)) (Rd.litn (k := .u64) (t := 22) (b := wr.heap.size) (wr.setCell ⟨g, k, none⟩ (.int .u64 (e : Int))) [e] (by simp [World.setCell]) (by simp)) (by simp only; omega) (Nat.le_trans hsz (belowA _ _).size)
          have hk' : k' = k + 1 := hn3
          subst hk'
          have R3 : Hid ((Builtin.append_ #[23, 23] 23 #[.slice D k p, .slice (some ⟨wr.heap.size, 0, none⟩) 1 1]).run Tryd.prog ((wr.setCell ⟨g, k, none⟩ (.int .u64 (e : Int))).alloc (.cells #[.int .u64 (e : Int)] 22)) = .ok (.slice D' (k + 1) p') w3) := hr3
          have E3 := Lib.hid (Ex.own1 (w0 := w) hgr3)
          have HCD : Hid (HasCol (upc col ((wr.setCell ⟨g, k, none⟩ (.int .u64 (e : Int))).alloc (.cells #[.int .u64 (e : Int)] 22)).heap.size (2 * i + 1)) (D, k, p) (2 * i + 1)) := hJ.out.2.2.1.up (OwnS.lt OD.out)
          have HCN : Hid (HasCol (upc col ((wr.setCell ⟨g, k, none⟩ (.int .u64 (e : Int))).alloc (.cells #[.int .u64 (e : Int)] 22)).heap.size (2 * i + 1)) (D', k + 1, p') (2 * i + 1)) := by
            rcases hfr3 with h1 | h1
            · intro a ea
              simp only at h1 ea
              exact HCD.out a (by rw [← h1]; exact ea)
            · exact HasCol.new h1
          have HN : Hid (J1 22 B w.heap.size w3 n i ss ws (fun j => if j = i then (G i).set k e else G j) (upc col ((wr.setCell ⟨g, k, none⟩ (.int .u64 (e : Int))).alloc (.cells #[.int .u64 (e : Int)] 22)).heap.size (2 * i + 1)) ∧ OwnS 22 w.heap.size w3 (D', k + 1, p') (((fun j => if j = i then (G i).set k e else G j) i).take (k + 1)) ∧ HasCol (upc col ((wr.setCell ⟨g, k, none⟩ (.int .u64 (e : Int))).alloc (.cells #[.int .u64 (e : Int)] 22)).heap.size (2 * i + 1)) (D', k + 1, p') (2 * i + 1) ∧ RowV 23 w.heap.size w3 Bw i q ((List.range i).map fun j => shv (ws j)) ∧ Ex (fun b => (∃ j, j < n ∧ Own1 (ss j) b) ∨ w.heap.size ≤ b) w w3) := by
            refine ⟨JA.out.up.other HCD.out E3.out, ?_, HCN.out, keep_row RW.out OD.out (by decide) E3.out, ((hJ.out.2.2.2.2.trans (E1.out.mono fun b hb => .inl ⟨i, hlt, hb⟩)).trans (Ex.alloc _ _)).trans (E3.out.mono fun b ⟨a, e2, e3⟩ => .inr (by have := (OD.out.lies a e2).1; omega))⟩
            have h2 : ((G i).set k e).take (k + 1) = (G i).take k ++ [e] := by
              rw [List.take_succ_eq_append_getElem (by simpa using (by omega : k < (G i).length)), List.take_set_of_le (Nat.le_refl k)]
              simp
            simp only [if_true]
            rw [h2]
            exact ho3
          clear hJ HO JA OD RW E1 E3 HCD HCN hr3 ho3 hgr3 hfr3 he hn3 hln
          go_wp2_with (at_builtin; refine Lib.wpList_append_run _ rfl (.tmp 37) (.tmp 39) 23 23 rfl _ _ rfl rfl _ _ R3.out ?_)
          go_roundw
          case rel => exact ⟨k + 1, e, D', p', _, _, HN, by omega, rfl, rfl, by go_num⟩
          case measure => simp [intOf]; omega
        · obtain rfl : k = ni := by omega
          have HLI : Hid ((G i).take k = G i) := by
            have h1 := (hJ.out.1.1 i hlt).1.len
            rw [HSI.out] at h1
            exact List.take_of_length_le (by rw [h1]; exact Nat.le_refl _)
          have hsz := hJ.out.2.2.2.2.size
          have hkk : (ss i).2.1 = k := by rw [HSI.out]
          have HKK := Lib.hid hkk
          clear hkk
          go_wp2_with (at_builtin; (refine wpList_appVs rfl (.tmp 41) (.tmp 43) rfl HTT.out (us := [.slice D k p]) rfl rfl (hJ.out.2.2.2.1.below (belowA _ _)) (RowV.lit (T := 23) (B := 0) _ [.slice D k p] rfl (by simp) (Nat.zero_le _)).rd (by simp [Value.oneCell']) (by omega) (by simp; omega) (Nat.le_trans hsz (belowA _ _).size) ?_); intro A' c' w' hr' hb' hg')
          have HN : Hid (J1 22 B w.heap.size w' n (i + 1) ss (fun j => if j = i then (D, k, p) else ws j) G col ∧ RowV 23 w.heap.size w' A' (i + 1) c' ((List.range (i + 1)).map fun j => shv ((fun j => if j = i then (D, k, p) else ws j) j)) ∧ Ex (fun b => (∃ j, j < n ∧ Own1 (ss j) b) ∨ w.heap.size ≤ b) w w' ∧ (∀ j, j < i + 1 → ((fun j => if j = i then (D, k, p) else ws j) j).2.1 = (ss j).2.1)) := by
            have hrow := hJ.out.2.2.2.1.below (belowA wr (.cells #[.slice D k p] 23))
            have hx := Ex.own1 (w0 := w) hg'
            refine ⟨((hJ.out.1.below (belowA _ _)).row hrow (by decide) hx).snoc ?_ hJ.out.2.2.1, by rw [range_snoc]; exact hr', (hJ.out.2.2.2.2.trans (Ex.alloc _ _)).trans (hx.mono fun b ⟨a, e2, e3⟩ => .inr (by have := (hrow.lies a e2).1; omega)), fun j hj => ?_⟩
            · have h1 := hJ.out.2.1
              rw [HLI.out] at h1
              exact keep_ownR (h1.below (belowA _ _)) hrow (by decide) hx
            · by_cases hji : j = i
              · subst hji; simpa using HKK.out.symm
              · simp only [if_neg hji]; exact hI.out.2.2.2 j (by omega)
          clear hJ hr' hb' hg'
          go_roundw
          case rel => exact ⟨i + 1, mk, A', c', _, _, _, HN, by omega, by go_num, rfl, by go_num⟩
          case measure => simp [intOf]; omega
    · obtain rfl : i = n := by omega
      have HI3 : Hid (J3 22 B w.heap.size wo i 0 0 ss ws ss G G col ∧ RowV 23 w.heap.size wo Bw i q ((List.range i).map fun j => shv (ws j)) ∧ Ex (fun b => (∃ j, j < i ∧ Own1 (ss j) b) ∨ w.heap.size ≤ b) w wo ∧ (∀ j, j < i → (ws j).2.1 = (ss j).2.1)) :=
        ⟨⟨hI.out.1.1, hI.out.1.2, fun j hj => absurd hj (Nat.not_lt_zero j), fun j hj => ⟨[], by simp⟩, fun j _ _ => rfl⟩, hI.out.2⟩
      clear hI
      go_wp2
      go_loopw [4, 5, 9] (fun v4 v5 v9 wr => ∃ (k mk : Nat) (Bg : Option Addr) (qg : Nat) (ws gs : Nat → Sh) (C : Nat → List Nat) (col : Nat → Nat), Hid (J3 22 B w.heap.size wr i k k ss ws gs G C col ∧ RowV 23 w.heap.size wr Bw i q ((List.range i).map fun j => shv (ws j)) ∧ RowV 23 w.heap.size wr Bg k qg ((List.range k).map fun j => shv (gs j)) ∧ Ex (fun b => (∃ j, j < i ∧ Own1 (ss j) b) ∨ w.heap.size ≤ b) w wr ∧ (∀ a b, Bw = some a → Bg = some b → a.block ≠ b.block) ∧ (∀ j, k ≤ j → j < i → (ws j).2.1 = (ss j).2.1) ∧ (∀ j, j < k → (gs j).2.1 ≤ 67108880)) ∧ k ≤ i ∧ v4 = .slice Bg k qg ∧ v5 = .int .u64 (mk : Int) ∧ v9 = .int .i64 (k : Int)) (fun _ _ v9 _ => i - (intOf v9).toNat)
      case atStart => exact ⟨0, mk, none, 0, ws, ss, G, col, ⟨HI3.out.1, HI3.out.2.1, RowV.nil, HI3.out.2.2.1, (fun a b _ h => by cases h), fun j _ hj => HI3.out.2.2.2 j hj, fun j hj => absurd hj (Nat.not_lt_zero j)⟩, Nat.zero_le _, rfl, rfl, rfl⟩
      case round =>
        obtain ⟨k, mk, Bg, qg, ws, gs, C, col, hI, hk, rfl, rfl, rfl⟩ := hrel
        obtain ⟨wo, rfl⟩ : ∃ wo : World, wo = wr := ⟨_, rfl⟩
        by_cases hlt : k < i
        · have i1 : (0 : Int) ≤ (k : Int) := by omega
          have i2 : (k : Int) < (i : Int) := by omega
          have hnk := HM.out k hlt
          obtain ⟨Ak, nk, ck, hsk⟩ : ∃ Ak nk ck, ss k = (Ak, nk, ck) := ⟨_, _, _, rfl⟩
          rw [hsk] at hnk
          simp only at hnk
          have HSK := Lib.hid hsk
          obtain ⟨b, off, ea, hb, hbw, hc⟩ := HC.out wo k hI.out.2.2.2.1 hlt
          rw [hsk] at hc
          have hc1 : wo.cell? ⟨b, off + k, none⟩ = some (.slice Ak nk ck) := hc
          obtain ⟨gb, egb, hgb1, hgb2⟩ := hI.out.2.1.form (by omega)
          have HST : Hid (OwnS 22 B wo (Ak, nk + 0, ck) (C k) ∧ HasCol col (Ak, nk + 0, ck) (2 * k) ∧ Kin (ss k) (Ak, nk + 0, ck) ∧ (ws k).2.1 = nk + 0) := by
            have h1 := hI.out.1.1 k hlt
            rw [hsk] at h1
            rw [hI.out.1.2.2.2.2 k (Nat.le_refl _) hlt]
            exact ⟨h1.1, h1.2, .inl ⟨by rw [hsk], by rw [hsk]⟩, by rw [hI.out.2.2.2.2.2.1 k (Nat.le_refl _) hlt, hsk]; rfl⟩
          subst ea
          subst egb
          clear hc hsk
          go_wp2
          clear hc1
          go_loopw [5, 10, 11] (fun v5 v10 v11 wr => ∃ (r mk : Nat) (Dg : Option Addr) (pg : Nat) (ws : Nat → Sh) (C : Nat → List Nat) (col : Nat → Nat), Hid (J3 22 B w.heap.size wr i k (k + 1) ss ws gs G C col ∧ OwnS 22 B wr (Dg, nk + r, pg) (C k) ∧ HasCol col (Dg, nk + r, pg) (2 * k) ∧ Kin (ss k) (Dg, nk + r, pg) ∧ (ws k).2.1 = nk + r ∧ RowV 23 w.heap.size wr (some ⟨gb, 0, none⟩) i q ((List.range i).map fun j => shv (ws j)) ∧ RowV 23 w.heap.size wr Bg k qg ((List.range k).map fun j => shv (gs j)) ∧ Ex (fun b => (∃ j, j < i ∧ Own1 (ss j) b) ∨ w.heap.size ≤ b) w wr ∧ (∀ j, k + 1 ≤ j → j < i → (ws j).2.1 = (ss j).2.1) ∧ (∀ a, Dg = some a → Own1 (ss k) a.block ∨ w.heap.size ≤ a.block)) ∧ r ≤ 16 ∧ v5 = .int .u64 (mk : Int) ∧ v10 = .slice Dg (nk + r) pg ∧ v11 = .int .i64 (r : Int)) (fun _ _ v11 _ => 16 - (intOf v11).toNat)
          case atStart => exact ⟨0, mk, Ak, ck, ws, C, col, ⟨hI.out.1.less, HST.out.1, HST.out.2.1, HST.out.2.2.1, HST.out.2.2.2, hI.out.2.1, hI.out.2.2.1, hI.out.2.2.2.1, fun j hj hj2 => hI.out.2.2.2.2.2.1 j (by omega) hj2, fun a ea => .inl ⟨a, by rw [HSK.out]; exact ea, rfl⟩⟩, by omega, rfl, rfl, rfl⟩
          case round =>
            obtain ⟨r, mk, Dg, pg, ws, C, col, hJ, hr, rfl, rfl, rfl⟩ := hrel
            by_cases hlr : r < 16
            · obtain ⟨e, he, _⟩ := wrap_u64n ((mk : Int) + 1)
              have he1 := lay he
              obtain ⟨ex, hex⟩ := hJ.out.1.2.2.2.1 k hlt
              have hsz := hJ.out.2.2.2.2.2.2.2.1.size
              obtain ⟨⟨Dg', ng', pg'⟩, w2, hr2, hn2, ho2, hs2, hk2, hgr2, hfr2⟩ := kin_app (w := wr.alloc (.cells #[.int .u64 (e : Int)] 22)) (s := ss k) (G := G k) (B2 := B) (B := B) (e := ex) (g := (Dg, nk + r, pg)) (ad := ⟨wr.heap.size, 0, none⟩) (c2 := 1) (x := e) 23 HT1.out ((hJ.out.1.1 k hlt).1.alloc _) (by rw [← hex]; exact hJ.out.2.1.alloc _) hJ.out.2.2.2.1 (Rd.lit1 (t := 22) wr e) (by simp only; omega) (by have := (belowA wr (.cells #[.int .u64 (e : Int)] 22)).size; omega)
              have hng' : ng' = nk + r + 1 := hn2
              subst hng'
              have W1 : Hid (w.heap.size ≤ (wr.alloc (.cells #[.int .u64 (e : Int)] 22)).heap.size) := Nat.le_trans hsz (belowA _ _).size
              have OG1 : Hid (OwnS 22 B (wr.alloc (.cells #[.int .u64 (e : Int)] 22)) (Dg, nk + r, pg) (C k)) := hJ.out.2.1.alloc _
              have E2 : Hid (Ex (Own1 (Dg, nk + r, pg)) (wr.alloc (.cells #[.int .u64 (e : Int)] 22)) w2) := Ex.own1 (w0 := w) hgr2
              have HC1 : Hid (HasCol (upc col (wr.alloc (.cells #[.int .u64 (e : Int)] 22)).heap.size (2 * k)) (Dg, nk + r, pg) (2 * k)) := hJ.out.2.2.1.up (OwnS.lt OG1.out)
              have HC2 : Hid (HasCol (upc col (wr.alloc (.cells #[.int .u64 (e : Int)] 22)).heap.size (2 * k)) (Dg', nk + r + 1, pg') (2 * k)) := by
                rcases hfr2 with h1 | h1
                · intro a ea
                  simp only at h1 ea
                  exact HC1.out a (by rw [← h1]; exact ea)
                · exact HasCol.new h1
              have J2 := Lib.hid (((hJ.out.1.below (belowA wr (.cells #[.int .u64 (e : Int)] 22))).up (c := 2 * k)).grow hlt HC1.out E2.out hs2)
              have OG2 : Hid (OwnS 22 B w2 (Dg', nk + r + 1, pg') (C k ++ [e])) := by
                rw [hex, List.append_assoc]; exact ho2
              have RW2 := Lib.hid (keep_row (hJ.out.2.2.2.2.2.1.below (belowA wr (.cells #[.int .u64 (e : Int)] 22))) OG1.out (by decide) E2.out)
              have RG2 := Lib.hid (keep_row (hJ.out.2.2.2.2.2.2.1.below (belowA wr (.cells #[.int .u64 (e : Int)] 22))) OG1.out (by decide) E2.out)
              have GB2 : Hid (∀ a, Dg' = some a → Own1 (ss k) a.block ∨ w.heap.size ≤ a.block) := fun a ea => by
                rcases hfr2 with h1 | h1
                · simp only at h1; exact hJ.out.2.2.2.2.2.2.2.2.2 a (by rw [← h1]; exact ea)
                · exact .inr (Nat.le_trans W1.out (h1 a ea))
              have X2 : Hid (Ex (fun b => (∃ j, j < i ∧ Own1 (ss j) b) ∨ w.heap.size ≤ b) w w2) := (hJ.out.2.2.2.2.2.2.2.1.trans (Ex.alloc _ _)).trans (E2.out.mono fun b ⟨a, e2, e3⟩ => by
                rcases hJ.out.2.2.2.2.2.2.2.2.2 a e2 with h1 | h1
                · exact .inl ⟨k, hlt, by rw [← e3]; exact h1⟩
                · exact .inr (by omega))
              have KN2 := Lib.hid hk2
              have HLN := Lib.hid hJ.out.2.2.2.2.1
              have HLS := Lib.hid hJ.out.2.2.2.2.2.2.2.2.1
              have R2 : Hid ((Builtin.append_ #[23, 23] 23 #[.slice Dg (nk + r) pg, .slice (some ⟨wr.heap.size, 0, none⟩) 1 1]).run Tryd.prog (wr.alloc (.cells #[.int .u64 (e : Int)] 22)) = .ok (.slice Dg' (nk + r + 1) pg') w2) := hr2
              clear hJ hr2 hn2 ho2 hs2 hk2 hgr2 hfr2 hsz OG1 HC1 E2 W1 hex he
              obtain ⟨Aw, nw, cw, hwk⟩ : ∃ Aw nw cw, ws k = (Aw, nw, cw) := ⟨_, _, _, rfl⟩
              have hnw : nw = nk + r := by have := HLN.out; rw [hwk] at this; exact this
              subst hnw
              have OW2 : Hid (OwnS 22 w.heap.size w2 (Aw, nk + r, cw) (C k)) := by have := (J2.out.2.1 k hlt).1; rw [hwk] at this; exact this
              have hsz2 := X2.out.size
              have hcw : w2.cell? ⟨gb, k, none⟩ = some (.slice Aw (nk + r) cw) := by
                rw [RW2.out.cell hlt, List.getElem?_map, List.getElem?_range hlt]
                simp only [Option.map_some, hwk]
                rfl
              obtain ⟨⟨Aw', nw', cw'⟩, w4, hr4, hn4, ho4, _, _, hgr4, hfr4⟩ := kin_app (w := w2.alloc (.cells #[.int .u64 (e : Int)] 22)) (s := (none, 0, 0)) (G := []) (B2 := 0) (B := w.heap.size) (e := C k) (g := (Aw, nk + r, cw)) (ad := ⟨w2.heap.size, 0, none⟩) (c2 := 1) (x := e) 23 HT1.out Own.nil (by simpa using OW2.out.alloc (.cells #[.int .u64 (e : Int)] 22)) (.inr (fun a b h1 => by cases h1)) (Rd.lit1 (t := 22) w2 e) (by simp only; omega) (Nat.le_trans hsz2 (belowA _ _).size)
              have hnw' : nw' = nk + r + 1 := hn4
              subst hnw'
              have R4 : Hid ((Builtin.append_ #[23, 23] 23 #[.slice Aw (nk + r) cw, .slice (some ⟨w2.heap.size, 0, none⟩) 1 1]).run Tryd.prog (w2.alloc (.cells #[.int .u64 (e : Int)] 22)) = .ok (.slice Aw' (nk + r + 1) cw') w4) := hr4
              have OW3 : Hid (OwnS 22 w.heap.size (w2.alloc (.cells #[.int .u64 (e : Int)] 22)) (ws k) (C k)) := by rw [hwk]; exact OW2.out.alloc _
              have E4 : Hid (Ex (Own1 (ws k)) (w2.alloc (.cells #[.int .u64 (e : Int)] 22)) w4) := by rw [hwk]; exact Ex.own1 (w0 := w) hgr4
              have HW1 : Hid (HasCol (upc (upc col (wr.alloc (.cells #[.int .u64 (e : Int)] 22)).heap.size (2 * k)) (w2.alloc (.cells #[.int .u64 (e : Int)] 22)).heap.size (2 * k + 1)) (ws k) (2 * k + 1)) := (J2.out.2.1 k hlt).2.up (OwnS.lt OW3.out)
              have HW2 : Hid (HasCol (upc (upc col (wr.alloc (.cells #[.int .u64 (e : Int)] 22)).heap.size (2 * k)) (w2.alloc (.cells #[.int .u64 (e : Int)] 22)).heap.size (2 * k + 1)) (Aw', nk + r + 1, cw') (2 * k + 1)) := by
                rcases hfr4 with h1 | h1
                · intro a ea
                  simp only at h1 ea
                  exact HW1.out a (by rw [hwk]; rw [← h1]; exact ea)
                · exact HasCol.new h1
              have J4 := Lib.hid (((J2.out.below (belowA w2 (.cells #[.int .u64 (e : Int)] 22))).up (c := 2 * k + 1)).wgrow hlt E4.out (s := (Aw', nk + r + 1, cw')) (x := e) (by simpa using ho4) HW2.out)
              have HC3 : Hid (HasCol (upc (upc col (wr.alloc (.cells #[.int .u64 (e : Int)] 22)).heap.size (2 * k)) (w2.alloc (.cells #[.int .u64 (e : Int)] 22)).heap.size (2 * k + 1)) (Dg', nk + r + 1, pg') (2 * k)) := HC2.out.up (OwnS.lt (OG2.out.alloc (.cells #[.int .u64 (e : Int)] 22)))
              have OG4 := Lib.hid (keep_own (OG2.out.alloc (.cells #[.int .u64 (e : Int)] 22)) HC3.out HW1.out (by omega) E4.out)
              have RW4 := Lib.hid (keep_row (RW2.out.below (belowA w2 (.cells #[.int .u64 (e : Int)] 22))) OW3.out (by decide) E4.out)
              have RG4 := Lib.hid (keep_row (RG2.out.below (belowA w2 (.cells #[.int .u64 (e : Int)] 22))) OW3.out (by decide) E4.out)
              have E5 : Hid (Ex (fun b => ∃ a, (some ⟨gb, 0, none⟩ : Option Addr) = some a ∧ a.block = b) w4 (w4.setCell ⟨gb, k, none⟩ (.slice Aw' (nk + r + 1) cw'))) := Ex.setCell _ _ _ _ ⟨_, rfl, rfl⟩
              have X4 : Hid (Ex (fun b => (∃ j, j < i ∧ Own1 (ss j) b) ∨ w.heap.size ≤ b) w (w4.setCell ⟨gb, k, none⟩ (.slice Aw' (nk + r + 1) cw'))) := ((X2.out.trans (Ex.alloc w2 (.cells #[.int .u64 (e : Int)] 22))).trans (E4.out.mono fun b ⟨a, e2, e3⟩ => .inr (by have := (OW3.out.lies a e2).1; omega))).trans (E5.out.mono fun b ⟨a, e2, e3⟩ => .inr (by injection e2 with e2; rw [← e2] at e3; simp only at e3; omega))
              have hcw4 : w4.cell? ⟨gb, k, none⟩ = some (.slice Aw (nk + r) cw) := by
                rw [RW4.out.cell hlt, List.getElem?_map, List.getElem?_range hlt]
                simp only [Option.map_some, hwk]
                rfl
              have hfw4 := RW4.out.frozen (i := k)
              have HN : Hid (J3 22 B w.heap.size (w4.setCell ⟨gb, k, none⟩ (.slice Aw' (nk + r + 1) cw')) i k (k + 1) ss (fun j => if j = k then (Aw', nk + r + 1, cw') else ws j) gs G (fun j => if j = k then C k ++ [e] else C j) (upc (upc col (wr.alloc (.cells #[.int .u64 (e : Int)] 22)).heap.size (2 * k)) (w2.alloc (.cells #[.int .u64 (e : Int)] 22)).heap.size (2 * k + 1)) ∧ OwnS 22 B (w4.setCell ⟨gb, k, none⟩ (.slice Aw' (nk + r + 1) cw')) (Dg', nk + (r + 1), pg') ((fun j => if j = k then C k ++ [e] else C j) k) ∧ HasCol (upc (upc col (wr.alloc (.cells #[.int .u64 (e : Int)] 22)).heap.size (2 * k)) (w2.alloc (.cells #[.int .u64 (e : Int)] 22)).heap.size (2 * k + 1)) (Dg', nk + (r + 1), pg') (2 * k) ∧ Kin (ss k) (Dg', nk + (r + 1), pg') ∧ ((fun j => if j = k then (Aw', nk + r + 1, cw') else ws j) k).2.1 = nk + (r + 1) ∧ RowV 23 w.heap.size (w4.setCell ⟨gb, k, none⟩ (.slice Aw' (nk + r + 1) cw')) (some ⟨gb, 0, none⟩) i q ((List.range i).map fun j => shv ((fun j => if j = k then (Aw', nk + r + 1, cw') else ws j) j)) ∧ RowV 23 w.heap.size (w4.setCell ⟨gb, k, none⟩ (.slice Aw' (nk + r + 1) cw')) Bg k qg ((List.range k).map fun j => shv (gs j)) ∧ Ex (fun b => (∃ j, j < i ∧ Own1 (ss j) b) ∨ w.heap.size ≤ b) w (w4.setCell ⟨gb, k, none⟩ (.slice Aw' (nk + r + 1) cw')) ∧ (∀ j, k + 1 ≤ j → j < i → ((fun j => if j = k then (Aw', nk + r + 1, cw') else ws j) j).2.1 = (ss j).2.1) ∧ (∀ a, Dg' = some a → Own1 (ss k) a.block ∨ w.heap.size ≤ a.block)) := by
                refine ⟨J4.out.row RW4.out (by decide) E5.out, ?_, HC3.out, KN2.out, by simp only [if_true]; omega, ?_, RG4.out.ex E5.out (fun a ea ⟨a2, e2, e3⟩ => hI.out.2.2.2.2.1 a2 a e2 ea e3), X4.out, fun j hj hj2 => ?_, GB2.out⟩
                · simp only [if_true]; exact keep_ownR OG4.out RW4.out (by decide) E5.out
                · rw [range_set hlt]; exact RW4.out.stored
                · simp only [if_neg (show j ≠ k by omega)]; exact HLS.out j hj hj2
              clear J2 OG2 RW2 RG2 X2 HLN HLS OW2 OW3 E4 HW1 HW2 J4 HC3 OG4 RW4 RG4 E5 X4 hr4 hn4 ho4 hgr4 hfr4 hsz2 hwk HC2 GB2 KN2
              go_wp2_with (first
                | (at_builtin; refine Lib.wpList_append_run _ rfl (.tmp 61) (.tmp 63) 23 23 rfl _ _ rfl rfl _ _ R2.out ?_)
                | (at_builtin; refine Lib.wpList_append_run _ rfl (.tmp 70) (.tmp 72) 23 23 rfl _ _ rfl rfl _ _ R4.out ?_))
              go_roundw
              case rel => exact ⟨r + 1, e, Dg', pg', _, _, _, HN, by omega, rfl, rfl, by go_num⟩
              case measure => simp [intOf]; omega
            · have hsz := hJ.out.2.2.2.2.2.2.2.1.size
              have hwo : gb < wr.heap.size := (hJ.out.2.2.2.2.2.1.lies _ rfl).2
              obtain rfl : r = 16 := by omega
              clear hlr
              go_wp2_with (at_builtin; (refine wpList_appVs2 rfl (.tmp 75) (.tmp 77) rfl HTT.out (us := [.slice Dg (nk + 16) pg]) rfl rfl (hJ.out.2.2.2.2.2.2.1.below (belowA _ _)) (RowV.lit (T := 23) (B := 0) _ [.slice Dg (nk + 16) pg] rfl (by simp) (Nat.zero_le _)).rd (by simp [Value.oneCell']) (by omega) (by simp; omega) (Nat.le_trans hsz (belowA _ _).size) ?_); intro A' c' w' hr' hb' hg' hat')
              have HN : Hid (J3 22 B w.heap.size w' i (k + 1) (k + 1) ss ws (fun j => if j = k then (Dg, nk + 16, pg) else gs j) G C col ∧ RowV 23 w.heap.size w' (some ⟨gb, 0, none⟩) i q ((List.range i).map fun j => shv (ws j)) ∧ RowV 23 w.heap.size w' A' (k + 1) c' ((List.range (k + 1)).map fun j => shv ((fun j => if j = k then (Dg, nk + 16, pg) else gs j) j)) ∧ Ex (fun b => (∃ j, j < i ∧ Own1 (ss j) b) ∨ w.heap.size ≤ b) w w' ∧ (∀ a b, (some ⟨gb, 0, none⟩ : Option Addr) = some a → A' = some b → a.block ≠ b.block) ∧ (∀ j, k + 1 ≤ j → j < i → (ws j).2.1 = (ss j).2.1) ∧ (∀ j, j < k + 1 → ((fun j => if j = k then (Dg, nk + 16, pg) else gs j) j).2.1 ≤ 67108880)) := by
                have hrow := hJ.out.2.2.2.2.2.2.1.below (belowA wr (.cells #[.slice Dg (nk + 16) pg] 23))
                have hx := Ex.own1 (w0 := w) hg'
                refine ⟨((hJ.out.1.below (belowA _ _)).row hrow (by decide) hx).snoc (keep_ownR (hJ.out.2.1.below (belowA _ _)) hrow (by decide) hx) hJ.out.2.2.1, (hJ.out.2.2.2.2.2.1.below (belowA _ _)).ex hx (fun a ea ⟨a2, e2, e3⟩ => hI.out.2.2.2.2.1 a a2 ea e2 e3.symm), by rw [range_snoc]; exact hr', (hJ.out.2.2.2.2.2.2.2.1.trans (Ex.alloc _ _)).trans (hx.mono fun b ⟨a, e2, e3⟩ => .inr (by have := (hrow.lies a e2).1; omega)), fun a b2 ea eb hab => ?_, hJ.out.2.2.2.2.2.2.2.2.1, fun j hj => ?_⟩
                rotate_left
                · by_cases hjk : j = k
                  · subst hjk; simp only [if_true]; omega
                  · simp only [if_neg hjk]; exact hI.out.2.2.2.2.2.2 j (by omega)
                rcases hat' b2 eb with ⟨a3, e3, e4⟩ | h1
                · exact hI.out.2.2.2.2.1 a a3 ea e3 (by rw [e4, hab])
                · injection ea with ea
                  subst ea
                  have := (belowA wr (.cells #[.slice Dg (nk + 16) pg] 23)).size
                  simp only at hab
                  omega
              clear hJ hr' hb' hg' hat'
              go_roundw
              case rel => exact ⟨k + 1, mk, A', c', _, _, _, _, HN, by omega, by go_num, rfl, by go_num⟩
              case measure => simp [intOf]; omega
        · obtain rfl : k = i := by omega
          have HJ := Lib.hid hI
          clear hI
          go_wp2
          go_loopw [12] (fun v12 wr => ∃ k5 : Nat, Hid (Below wo.heap.size wo wr) ∧ k5 ≤ k ∧ v12 = .int .i64 (k5 : Int)) (fun v12 _ => k - (intOf v12).toNat)
          case atStart => exact ⟨0, Below.refl _ _, Nat.zero_le _, rfl⟩
          case round =>
            obtain ⟨k5, hB5, hk5, rfl⟩ := hrel
            by_cases hlt5 : k5 < k
            · obtain ⟨b, off, ea, hb, hbw, hc⟩ := HC.out wo k5 HJ.out.out.2.2.2.1 hlt5
              obtain ⟨gb, egb, _, hgb2⟩ := HJ.out.out.2.1.form (by omega)
              obtain ⟨gg, egg, _, hgg2⟩ := HJ.out.out.2.2.1.form (by omega)
              obtain ⟨As, ns, cs, hs⟩ : ∃ As ns cs, ss k5 = (As, ns, cs) := ⟨_, _, _, rfl⟩
              obtain ⟨Aw, nw, cw, hw⟩ : ∃ Aw nw cw, ws k5 = (Aw, nw, cw) := ⟨_, _, _, rfl⟩
              obtain ⟨Ag, ng, cg, hg⟩ : ∃ Ag ng cg, gs k5 = (Ag, ng, cg) := ⟨_, _, _, rfl⟩
              obtain ⟨e, hCe⟩ := HJ.out.out.1.2.2.2.1 k5 hlt5
              have OS : Hid (Own .u64 22 B wo As ns cs (G k5)) := by have := (HJ.out.out.1.1 k5 hlt5).1; rw [hs] at this; exact this
              have OW : Hid (Own .u64 22 w.heap.size wo Aw nw cw (C k5)) := by have := (HJ.out.out.1.2.1 k5 hlt5).1; rw [hw] at this; exact this
              have OG : Hid (Own .u64 22 B wo Ag ng cg (C k5)) := by have := (HJ.out.out.1.2.2.1 k5 hlt5).1; rw [hg] at this; exact this
              have hnsw : ns ≤ nw := by have h1 := OS.out.len; have h2 := OW.out.len; rw [hCe, List.length_append] at h2; omega
              have hwc := OW.out.cap.1
              have hnsM : ns ≤ 67108864 := by have := HM.out k5 hlt5; rw [hs] at this; exact this
              have hngM : ng ≤ 1099511627776 := by have := HJ.out.out.2.2.2.2.2.2 k5 hlt5; rw [hg] at this; simp only at this; omega
              have RT : Hid (Rd .u64 wo Aw ns cw (G k5)) := by
                have h1 := OW.out.rd.upto hnsw
                have h2 := OS.out.len
                rw [hCe, ← h2, List.take_left, h2] at h1
                exact h1
              have c1 : wo.cell? ⟨b, off + k5, none⟩ = some (.slice As ns cs) := by rw [hc, hs]; rfl
              have HWR : Hid (RowV 23 w.heap.size wo (some ⟨gb, 0, none⟩) k q ((List.range k).map fun j => shv (ws j))) := by have := HJ.out.out.2.1; rw [egb] at this; exact this
              have HGR : Hid (RowV 23 w.heap.size wo (some ⟨gg, 0, none⟩) k qg ((List.range k).map fun j => shv (gs j))) := by have := HJ.out.out.2.2.1; rw [egg] at this; exact this
              have c2 : wo.cell? ⟨gb, k5, none⟩ = some (.slice Aw nw cw) := by
                rw [HWR.out.cell hlt5, List.getElem?_map, List.getElem?_range hlt5]
                simp only [Option.map_some, hw]
                rfl
              have c3 : wo.cell? ⟨gg, k5, none⟩ = some (.slice Ag ng cg) := by
                rw [HGR.out.cell hlt5, List.getElem?_map, List.getElem?_range hlt5]
                simp only [Option.map_some, hg]
                rfl
              have T1 : Hid (∀ W' : World, Below wo.heap.size wo W' → At W' ⟨b, off + k5, none⟩ (.slice As ns cs)) := fun W' h => ⟨(h.cell (p := ⟨b, off + k5, none⟩) hb).trans c1, Nat.lt_of_lt_of_le hb h.size⟩
              have T2 : Hid (∀ W' : World, Below wo.heap.size wo W' → At W' ⟨gb, k5, none⟩ (.slice Aw nw cw)) := fun W' h => ⟨(h.cell (p := ⟨gb, k5, none⟩) hgb2).trans c2, Nat.lt_of_lt_of_le hgb2 h.size⟩
              have T3 : Hid (∀ W' : World, Below wo.heap.size wo W' → At W' ⟨gg, k5, none⟩ (.slice Ag ng cg)) := fun W' h => ⟨(h.cell (p := ⟨gg, k5, none⟩) hgg2).trans c3, Nat.lt_of_lt_of_le hgg2 h.size⟩
              have i1 : (0 : Int) ≤ (k5 : Int) := by omega
              have i2 : (k5 : Int) < (k : Int) := by omega
              have i3 : (0 : Int) ≤ (ns : Int) := by omega
              have i4 : (ns : Int) ≤ (cw : Int) := by omega
              subst ea egb egg
              clear hc c1 c2 c3 HWR HGR hs hw hg hCe
              have f1 := (T1.out wr hB5.out).1
              have f2 := (T2.out wr hB5.out).1
              have f3 := (T3.out wr hB5.out).1
              have g2 := At.grow (T2.out wr hB5.out)
              have g3 := At.grow (T3.out wr hB5.out)
              go_wp2_with fail
              refine wp_region_grow none [(true, 0), (true, 1), (true, 2), (true, 3), (true, 4), (true, 5), (true, 6), (true, 7), (false, 8), (true, 9), (true, 10), (true, 11), (true, 12), (true, 13), (true, 14), (true, 15), (true, 16), (true, 17), (true, 18), (true, 19), (true, 20), (true, 21), (true, 22), (true, 23), (true, 24), (false, 25), (true, 26), (true, 27)] (by kernel_rfl) (by kernel_rfl) ?_
              repeat (refine ord_pas (by rfl) (fun K hK => ?_); go_simp; refine hK _ _ (fun w' hw' => (by first | (go_simp; done) | (go_simp; intro hh; cases hh))) ?_; clear hK K)
              clear g2 g3 f1 f2 f3
              (refine ord_call (by rfl) (fun K hK => ?_); go_simp; refine hK _ _ ?_; clear hK K)
              have HBD : Hid (Below wo.heap.size wo wr.drew) := bt hB5.out (below_drewN _ 1)
              refine (same1_yes (OG.out.rd.below HBD.out) (OW.out.rd.below HBD.out) rfl hngM).mono ?_
              rintro e w3 ⟨rfl, hb3⟩
              refine ⟨_, rfl, (Grow.of_below hb3), ?_⟩
              (refine ord_norm (fun K hK => ?_); go_simp; refine hK _ ?_; clear hK K)
              have HB3 : Hid (Below wo.heap.size wo w3) := bt HBD.out hb3
              have f1 := (T1.out w3 HB3.out).1
              have f2 := (T2.out w3 HB3.out).1
              have g1 := At.grow0 (T1.out w3 HB3.out)
              have g2 := At.grow0 (T2.out w3 HB3.out)
              repeat (refine ord_pas (by rfl) (fun K hK => ?_); go_simp; refine hK _ _ (fun w' hw' => (by first | (go_simp; done) | (go_simp; intro hh; cases hh))) ?_; clear hK K)
              clear g1 g2 f1 f2
              (refine ord_call (by rfl) (fun K hK => ?_); go_simp; refine hK _ _ ?_; clear hK K)
              refine (same1_yes (OS.out.rd.below HB3.out) (RT.out.below HB3.out) rfl (by omega)).mono ?_
              rintro e w4 ⟨rfl, hb4⟩
              refine ⟨_, rfl, (Grow.of_below hb4), ?_⟩
              (refine ord_norm (fun K hK => ?_); go_simp; refine hK _ ?_; clear hK K)
              repeat (refine ord_pas (by rfl) (fun K hK => ?_); go_simp; refine hK _ _ (fun w' hw' => (by first | (go_simp; done) | (go_simp; intro hh; cases hh))) ?_; clear hK K)
              refine ord_nil ?_
              have HN : Hid (Below wo.heap.size wo w4) := bt HB3.out hb4
              clear hB5 hb3 hb4 HB3 HBD
              go_wp2
              go_roundw
              case rel => exact ⟨k5 + 1, HN, by omega, by go_num⟩
              case measure => simp [intOf]; omega
            · obtain rfl : k5 = k := by omega
              have HEND := Lib.hid (HJ.out.out.2.2.2.1.trans (Ex.of_below (S := fun b => (∃ j, j < k5 ∧ Own1 (ss j) b) ∨ w.heap.size ≤ b) hB5.out))
              go_wp2
              go_ret
              exact ⟨rfl, HEND.out⟩
end Go.Proofs.YtfpogghlcodncaaDoor
