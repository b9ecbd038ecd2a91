/-
  surdlaw05: (said).same says yes; kept says yes. surdlaw05: room, rooms. surdlaw05.apart. GcdMemory's parts in plain form.
-/
import Derived.Test.YtamfhmmcnlollaaGreatGcdWa
import Derived.Test.YtamfhmmcnlollaaGreatFixed
namespace Go.Proofs.YtamfhmmcnlollaaGreat
open Go.RowKit
set_option linter.unusedVariables false

set_option maxHeartbeats 2000000 in
theorem said_yes {A B An Bn : Option Addr} {m q r k qn rn : Nat} {ss ss2 : List Sh} {F : Nat → List Nat} {ns : List Int} {w : World} (h : RdV w A m q (ss.map shv)) (h' : RdV w B m r (ss2.map shv))
    (hF : ∀ (i : Nat) (s : Sh), ss[i]? = some s → Rd .u64 w s.1 s.2.1 s.2.2 (F i)) (hF' : ∀ (i : Nat) (s : Sh), ss2[i]? = some s → Rd .u64 w s.1 s.2.1 s.2.2 (F i)) (hM : ∀ (i : Nat) (s : Sh), ss[i]? = some s → s.2.1 ≤ 67108864) (hm : m ≤ 1048576) (hr : RdV w An k qn (ns.map (Value.int .i64))) (hr' : RdV w Bn k rn (ns.map (Value.int .i64))) (hk : k ≤ 1048576) :
    Calls Tryz.prog 11 #[.agg #[.slice A m q, .slice An k qn], .agg #[.slice B m r, .slice Bn k rn]] w (Keeps (.bool true) w) := by
  have H := Lib.hid h
  have H' := Lib.hid h'
  have HF := Lib.hid hF
  have HF' := Lib.hid hF'
  have HM := Lib.hid hM
  have HR := Lib.hid hr
  have HR' := Lib.hid hr'
  clear h h' hF hF' hM hr hr'
  go_enter Tryz.func11, Tryz.ntmps11
  have B0 : Hid (Below w.heap.size w (World.alloc (World.alloc w (.cells #[.slice A m q, .slice An k qn] 35)) (.cells #[.slice B m r, .slice Bn k rn] 35))) := (bt ((Below.refl _ _).alloc (Nat.le_refl _) (.cells #[.slice A m q, .slice An k qn] 35)) ((Below.refl _ _).alloc (Nat.le_refl _) (.cells #[.slice B m r, .slice Bn k rn] 35)))
  have F0 := Lib.hid ((At.boxc (i := 0) (v := .slice A m q) (t := 35) (b := w.heap.size) w #[.slice A m q, .slice An k qn] rfl (by simp)).below ((Below.refl _ _).alloc (Nat.le_refl _) (.cells #[.slice B m r, .slice Bn k rn] 35)))
  have F1 := Lib.hid ((At.boxc (i := 1) (v := .slice An k qn) (t := 35) (b := w.heap.size) w #[.slice A m q, .slice An k qn] rfl (by simp)).below ((Below.refl _ _).alloc (Nat.le_refl _) (.cells #[.slice B m r, .slice Bn k rn] 35)))
  have G0 := Lib.hid (At.boxc (i := 0) (v := .slice B m r) (t := 35) (b := w.heap.size + 1) (World.alloc w (.cells #[.slice A m q, .slice An k qn] 35)) #[.slice B m r, .slice Bn k rn] rfl (by simp))
  have G1 := Lib.hid (At.boxc (i := 1) (v := .slice Bn k rn) (t := 35) (b := w.heap.size + 1) (World.alloc w (.cells #[.slice A m q, .slice An k qn] 35)) #[.slice B m r, .slice Bn k rn] rfl (by simp))
  go_wp2_with fail
  go_loopw [5] (fun iv wr => ∃ j : Nat, Hid (Below (World.alloc (World.alloc w (.cells #[.slice A m q, .slice An k qn] 35)) (.cells #[.slice B m r, .slice Bn k rn] 35)).heap.size (World.alloc (World.alloc w (.cells #[.slice A m q, .slice An k qn] 35)) (.cells #[.slice B m r, .slice Bn k rn] 35)) wr) ∧ j ≤ m ∧ iv = .int .i64 (j : Int)) (fun iv _ => m - (intOf iv).toNat)
  case atStart => exact ⟨0, Below.refl _ _, Nat.zero_le _, rfl⟩
  case round =>
    obtain ⟨j, hI, hj, rfl⟩ := hrel
    have z0 := (F0.out.below hI.out).1
    by_cases hlt : j < m
    · have hl1 : (ss.map shv).length = m := H.out.1.1
      have hl2 : (ss2.map shv).length = m := H'.out.1.1
      rw [List.length_map] at hl1 hl2
      obtain ⟨s, hs⟩ : ∃ s, ss[j]? = some s := ⟨_, List.getElem?_eq_getElem (by omega)⟩
      obtain ⟨s2, hs2⟩ : ∃ s2, ss2[j]? = some s2 := ⟨_, List.getElem?_eq_getElem (by omega)⟩
      obtain ⟨b, off, rfl, hb, hc⟩ := H.out.2 (by omega)
      obtain ⟨b2, off2, rfl, hb2, hc2⟩ := H'.out.2 (by omega)
      have C1 : At w ⟨b, off + j, none⟩ (shv s) := ⟨by rw [hc j hlt, List.getElem?_map, hs]; rfl, hb⟩
      have C2 : At w ⟨b2, off2 + j, none⟩ (shv s2) := ⟨by rw [hc2 j hlt, List.getElem?_map, hs2]; rfl, hb2⟩
      have R1 := Lib.hid (HF.out j s hs)
      have R2 := Lib.hid (HF'.out j s2 hs2)
      have M1 : s.2.1 ≤ 1099511627776 := Nat.le_trans (HM.out j s hs) (by omega)
      clear hc hc2 hs hs2 hl1 hl2
      obtain ⟨A1, n1, c1⟩ := s
      obtain ⟨A3, n3, c3⟩ := s2
      have i1 : (0 : Int) ≤ (j : Int) := by omega
      have i2 : (j : Int) < (m : Int) := by omega
      have hw : Hid (Below w.heap.size w wr) := bt B0.out hI.out
      go_wp2_with fail
      have e_f0 := (F0.out.below hI.out).1
      have g_f0 := At.grow (F0.out.below hI.out)
      have e_g0 := (G0.out.below hI.out).1
      have g_g0 := At.grow (G0.out.below hI.out)
      have e_p := (show At wr ⟨b, off + j, none⟩ (.slice A1 n1 c1) from C1.below hw.out).1
      have g_p := At.grow (show At wr ⟨b, off + j, none⟩ (.slice A1 n1 c1) from C1.below hw.out)
      have e_q := (show At wr ⟨b2, off2 + j, none⟩ (.slice A3 n3 c3) from C2.below hw.out).1
      have g_q := At.grow (show At wr ⟨b2, off2 + j, none⟩ (.slice A3 n3 c3) from C2.below hw.out)
      refine wp_region_grow none [(true, 0), (true, 1), (true, 2), (true, 3), (true, 4), (true, 5), (true, 6), (true, 7), (true, 8), (true, 9), (false, 10), (true, 11)] (by kernel_rfl) (by kernel_rfl) ?_
      repeat (refine ord_pas (by rfl) (fun K hK => ?_); go_simp; refine hK _ _ (fun w' hw' => (by first | (go_simp; done) | (go_simp; intro hh; cases hh))) ?_; clear hK K)
      clear z0
      (refine ord_call (by rfl) (fun K hK => ?_); go_simp; refine hK _ _ ?_; clear hK K)
      refine (same5k_any (R1.out.below (bt hw.out (below_drewN _ 1))) (R2.out.below (bt hw.out (below_drewN _ 1))) rfl M1).mono ?_
      rintro e w3 ⟨rfl, hb3⟩
      refine ⟨_, rfl, (Grow.of_below hb3), ?_⟩
      (refine ord_norm (fun K hK => ?_); go_simp; refine hK _ ?_; clear hK K)
      repeat (refine ord_pas (by rfl) (fun K hK => ?_); go_simp; refine hK _ _ (fun w' hw' => (by first | (go_simp; done) | (go_simp; intro hh; cases hh))) ?_; clear hK K)
      refine ord_nil ?_
      clear g_f0 e_f0 g_g0 e_g0 g_p e_p g_q e_q
      have HN := Lib.hid (bt (bt hI.out (below_drewN _ 1)) hb3)
      clear hI hb3
      go_wp2
      go_roundw
      case rel => exact ⟨j + 1, HN, by omega, by go_num⟩
      case measure => simp [intOf]; omega
    · obtain rfl : m = j := by omega
      go_wp2_with fail
      clear z0
      go_loopw [6] (fun iv wr => ∃ j : Nat, Hid (Below (World.alloc (World.alloc w (.cells #[.slice A m q, .slice An k qn] 35)) (.cells #[.slice B m r, .slice Bn k rn] 35)).heap.size (World.alloc (World.alloc w (.cells #[.slice A m q, .slice An k qn] 35)) (.cells #[.slice B m r, .slice Bn k rn] 35)) wr) ∧ j ≤ k ∧ iv = .int .i64 (j : Int)) (fun iv _ => k - (intOf iv).toNat)
      case atStart => exact ⟨0, hI.out, Nat.zero_le _, rfl⟩
      case round =>
        rename_i wr0
        clear hI
        obtain ⟨i, hI, hi, rfl⟩ := hrel
        have z1 := (F1.out.below hI.out).1
        by_cases hlt : i < k
        · have hl1 : (ns.map (Value.int .i64)).length = k := HR.out.1.1
          rw [List.length_map] at hl1
          obtain ⟨s, hs⟩ : ∃ s, ns[i]? = some s := ⟨_, List.getElem?_eq_getElem (by omega)⟩
          obtain ⟨b, off, rfl, hb, hc⟩ := HR.out.2 (by omega)
          obtain ⟨b2, off2, rfl, hb2, hc2⟩ := HR'.out.2 (by omega)
          have C1 : At w ⟨b, off + i, none⟩ (.int .i64 s) := ⟨by rw [hc i hlt, List.getElem?_map, hs]; rfl, hb⟩
          have C2 : At w ⟨b2, off2 + i, none⟩ (.int .i64 s) := ⟨by rw [hc2 i hlt, List.getElem?_map, hs]; rfl, hb2⟩
          clear hc hc2 hs hl1
          have i1 : (0 : Int) ≤ (i : Int) := by omega
          have i2 : (i : Int) < (k : Int) := by omega
          have hw : Hid (Below w.heap.size w wr) := bt B0.out hI.out
          go_wp2_with fail
          have e_f1 := (F1.out.below hI.out).1
          have g_f1 := At.grow (F1.out.below hI.out)
          have e_g1 := (G1.out.below hI.out).1
          have g_g1 := At.grow (G1.out.below hI.out)
          have e_p := (C1.below hw.out).1
          have g_p := At.grow (C1.below hw.out)
          have e_q := (C2.below hw.out).1
          have g_q := At.grow (C2.below hw.out)
          refine wp_region_grow none [(true, 0), (true, 1), (true, 2), (true, 3), (true, 4), (true, 5), (true, 6), (true, 7), (true, 8), (true, 9), (true, 10)] (by kernel_rfl) (by kernel_rfl) ?_
          repeat (refine ord_pas (by rfl) (fun K hK => ?_); go_simp; refine hK _ _ (fun w' hw' => (by first | (go_simp; done) | (go_simp; intro hh; cases hh))) ?_; clear hK K)
          clear z1
          repeat (refine ord_pas (by rfl) (fun K hK => ?_); go_simp; refine hK _ _ (fun w' hw' => (by first | (go_simp; done) | (go_simp; intro hh; cases hh))) ?_; clear hK K)
          refine ord_nil ?_
          clear g_f1 e_f1 g_g1 e_g1 g_p e_p g_q e_q
          have HN := Lib.hid (bt hI.out (below_drewN _ 1))
          clear hI
          go_wp2
          go_roundw
          case rel => exact ⟨i + 1, HN, by omega, by go_num⟩
          case measure => simp [intOf]; omega
        · obtain rfl : k = i := by omega
          have HEND := Lib.hid (bt B0.out hI.out)
          go_wp2
          go_ret
          exact ⟨rfl, HEND.out⟩
theorem kept_yes {A A2 : Option Addr} {n c d : Nat} {xs : List Nat} {w : World} (h : Rd .u64 w A (n + 2) c (xs ++ [71, 72])) (h' : Rd .u64 w A2 n d xs) (hn : n ≤ 1048576) :
    Calls Tryz.prog 12 #[.slice A (n + 2) c, .slice A2 n d] w (Keeps (.bool true) w) := by
  obtain ⟨b, off, rfl, hb, hc⟩ := h.2 (by omega)
  have hl : xs.length = n := h'.1.1
  have c1 := hc n (by omega)
  have c2 := hc (n + 1) (by omega)
  have q1 : nth (xs ++ [71, 72]) n = 71 := by subst hl; simp [nth]
  have q2 : nth (xs ++ [71, 72]) (n + 1) = 72 := by subst hl; simp [nth]
  rw [q1] at c1
  rw [q2] at c2
  have RA := h.upto (j := n) (by omega)
  rw [List.take_left' hl] at RA
  have C := Lib.hid (same5k_any RA h' rfl (by omega))
  have hcp := h.1.2
  have K1 : At w ⟨b, off + n, none⟩ (.int .u64 ((71 : Nat) : Int)) := ⟨c1, hb⟩
  have K2 : At w ⟨b, off + (n + 1), none⟩ (.int .u64 ((72 : Nat) : Int)) := ⟨c2, hb⟩
  clear hc c1 c2 q1 q2 RA h h' hl
  have s1 : (0 : Int) ≤ (n : Int) := by omega
  have s2 : (n : Int) ≤ (c : Int) := by omega
  go_enter Tryz.func12, Tryz.ntmps12
  go_wp2_with fail
  refine C.out.mono ?_
  rintro e w1 ⟨rfl, hb1⟩
  have k1 := (K1.below hb1).1
  have k2 := (K2.below hb1).1
  go_wp2
  go_ret
  exact ⟨rfl, hb1⟩
end Go.Proofs.YtamfhmmcnlollaaGreat
namespace Go.Proofs.YtamfhmmcnlollaaGreat
open Go.RowKit
set_option linter.unusedVariables false

theorem RowV.other {t T : TypeId} {B B2 n c m d : Nat} {w w' : World} {A A2 : Option Addr} {us vs : List Value} (ho : RowV t B w A n c us) (hr : RowV T B2 w A2 m d vs) (hne : t ≠ T) (hg : w.grownBy w' (Value.slice A2 m d).ownBlock) : RowV t B w' A n c us := by
  refine World.ownsRow.kept ho hg ?_
  rcases ho.2 with ⟨h1, _⟩ | ⟨g, cap, cur, hv, _, hh, _⟩
  · left; rw [h1]; rfl
  · rcases hr.2 with ⟨h2, _⟩ | ⟨g2, cap2, cur2, hv2, _, hh2, _⟩
    · right; rw [hv, h2]; simp [Value.ownBlock]
    · right
      rw [hv, hv2]
      simp only [Value.ownBlock]
      intro e
      injection e with e
      subst e
      rw [hh] at hh2
      injection hh2 with hh2
      injection hh2 with _ e2 _
      exact hne e2
theorem Els.snoc {t : TypeId} {B : Nat} {w : World} {ss : List Sh} {F : Nat → List Nat} {s : Sh} (h : Els t B w ss F) (ho : Own .u64 t B w s.1 s.2.1 s.2.2 (F ss.length)) : Els t B w (ss ++ [s]) F := by
  intro i s' hi
  by_cases h1 : i < ss.length
  · rw [List.getElem?_append_left h1] at hi; exact h i s' hi
  · rw [List.getElem?_append_right (by omega)] at hi
    obtain ⟨k, hk⟩ : ∃ k, k = i - ss.length := ⟨_, rfl⟩
    rw [← hk] at hi
    rcases k with _ | k
    · simp at hi; subst hi
      obtain rfl : i = ss.length := by omega
      exact ho
    · simp at hi
theorem wpList_mkV {P : Program} {w : World} {t T : TypeId} {ops : Array Oper} {rest : List Oper} {o : Oper} {a : Act} {Q : Exit → Act → World → Prop} (hg : o.guard = none) (l c : Operand) (hop : o.op = Op.makeSlice T l c) (he : ElemS P T t)
    (m : Nat) {kl kc : IntKind} {C : Int} (hl : a.eval l = .int kl 0) (hc : a.eval c = .int kc C) (hC : C = (m : Int)) (hn : m ≤ 1048576)
    (hK : ∀ w', RowV t w.heap.size w' (some ⟨w.heap.size, 0, none⟩) 0 m [] → Below w.heap.size w w' → wpList P ops Q rest (a.put o.dst (.slice (some ⟨w.heap.size, 0, none⟩) 0 m)) w') :
    wpList P ops Q (o :: rest) a w := by
  obtain ⟨hT, hinfo⟩ := id he
  obtain ⟨i, hi, hz, hs, hb⟩ := info_parts hinfo
  refine wpList_plain hg fun K hK' => ?_
  subst hC
  have hr := run_make (P := P) w T t i (.slice none 0 0) hT hi hz kl kc 0 (m : Int) (by omega) (by omega) (by rw [hb]; omega) (by omega)
  simp only [Int.toNat_natCast, Int.toNat_zero] at hr
  unfold Oper.wp
  simp [execOp, hop, hl, hc, hr, Result.andThen]
  refine hK' _ _ (hK _ ?_ ((Below.refl _ _).alloc (Nat.le_refl _) _))
  rw [hs]
  refine ⟨by simp, .inr ⟨w.heap.size, m, _, rfl, Nat.le_refl _, heap_alloc_new w _, Nat.zero_le _, by simp only [maxLen]; omega, ?_, by simp⟩⟩
  rw [size_madeCells]
def GRm (w : World) (n : Nat) (xs : List Nat) (e : Ending) (w' : World) : Prop :=
  ∃ A c, e = .returned (.slice A (n + 2) c) ∧ Own .u64 41 w.heap.size w' A (n + 2) c (xs ++ [71, 72]) ∧ Below w.heap.size w w'
set_option maxRecDepth 100000 in
set_option maxHeartbeats 1000000 in
theorem room05_any {A : Option Addr} {n c : Nat} {xs : List Nat} {w : World} (h : Rd .u64 w A n c xs) (hn : n ≤ 1048576) :
    Calls Tryz.prog 7 #[.slice A n c] w (GRm w n xs) := by
  have H := Lib.hid h
  clear h
  go_enter Tryz.func7, Tryz.ntmps7
  go_wp2_with (first
    | (at_make; refine wpList_mk2 rfl (.const (.int .i64 0)) (.tmp 5) rfl elW w.heap.size 0 (n + 2) rfl rfl rfl (by omega) (by omega) (by omega) (Nat.le_refl _) ?_; intro w1 o1 hb1)
    | (at_builtin; (refine wpList_app2 rfl (.tmp 6) (.tmp 7) rfl elW Tryz.underlying23 (B := w.heap.size) rfl rfl o1 (H.out.below hb1) (by omega) hb1.size ?_); intro A2 c2 w2 o2 hb2; rw [Nat.zero_add, List.replicate_zero, List.nil_append] at o2)
    | (at_builtin; (refine wpList_app rfl (.tmp 8) (.tmp 9) rfl elW (B := w.heap.size) rfl rfl (o2.below (belowA _ _)) (Own.lit (k := .u64) (t := 41) (B := 0) w2 [71, 72] (by simp [maxLen]) (Nat.zero_le _)).rd (by omega) (Nat.le_trans (hb1.trans hb2).size (belowA _ _).size) ?_); intro A3 c3 w3 o3 hb3 _ _))
  go_ret
  exact ⟨_, _, rfl, o3, (bt (hb1.trans hb2) (belowA _ _)).trans hb3⟩
/-- the header without the two last -/
def cut2 (s : Sh) : Value := .slice s.1 (s.2.1 - 2) s.2.2
theorem elRoom : ElemS Tryz.prog 30 22 := ⟨Tryz.underlying30, by kernel_rfl⟩
theorem elNatS : ElemS Tryz.prog 24 23 := ⟨Tryz.underlying24, by kernel_rfl⟩
def GRs (w : World) (n : Nat) (F : Nat → List Nat) (e : Ending) (w' : World) : Prop :=
  ∃ (A1 : Option Addr) (c1 : Nat) (A2 : Option Addr) (c2 : Nat) (hs : List Sh) (q : Option Addr), e = .returned (.tuple #[.slice A1 n c1, .slice A2 (n + 1) c2]) ∧ RowV 22 w.heap.size w' A1 n c1 (hs.map shv) ∧
    RowV 23 w.heap.size w' A2 (n + 1) c2 (hs.map cut2 ++ [.slice q 1 1]) ∧ Els 41 w.heap.size w' hs (fun i => F i ++ [71, 72]) ∧ hs.length = n ∧ Below w.heap.size w w'
set_option maxRecDepth 100000 in
set_option maxHeartbeats 4000000 in
theorem rooms05_any {A : Option Addr} {n c : Nat} {ss : List Sh} {F : Nat → List Nat} {w : World} (h : RdV w A n c (ss.map shv)) (hF : ∀ (i : Nat) (s : Sh), ss[i]? = some s → Rd .u64 w s.1 s.2.1 s.2.2 (F i)) (hL : ∀ (i : Nat) (s : Sh), ss[i]? = some s → s.2.1 ≤ 1048576) (hn : n ≤ 1000) :
    Calls Tryz.prog 8 #[.slice A n c] w (GRs w n F) := by
  have H := Lib.hid h
  have HF := Lib.hid hF
  have HL := Lib.hid hL
  have ER := Lib.hid elRoom
  have EN := Lib.hid elNatS
  clear h hF hL
  go_enter Tryz.func8, Tryz.ntmps8
  go_wp2_with (first
    | (at_make; refine wpList_mkV rfl (.const (.int .i64 0)) (.tmp 10) rfl EN.out (n + 1) rfl rfl (by omega) (by omega) ?_; intro w1 o1 hb1))
  go_loopw [4, 5, 6] (fun a1 a2 iv wr => ∃ (j : Nat) (A1 : Option Addr) (c1 : Nat) (A2 : Option Addr) (c2 : Nat) (hs : List Sh), Hid (RowV 22 w.heap.size wr A1 j c1 (hs.map shv) ∧
    RowV 23 w.heap.size wr A2 j c2 (hs.map cut2) ∧ Els 41 w.heap.size wr hs (fun i => F i ++ [71, 72]) ∧ hs.length = j ∧ Below w.heap.size w wr) ∧ j ≤ n ∧ a1 = .slice A1 j c1 ∧ a2 = .slice A2 j c2 ∧ iv = .int .i64 (j : Int)) (fun _ _ iv _ => n - (intOf iv).toNat)
  case atStart => exact ⟨0, _, _, _, _, [], ⟨RowV.nil, o1, Els.nil, rfl, hb1⟩, Nat.zero_le _, rfl, rfl, rfl⟩
  case round =>
    obtain ⟨j, A1, c1, A2, c2, hs, hI, hj, rfl, rfl, rfl⟩ := hrel
    clear o1 hb1
    by_cases hlt : j < n
    · have hl1 : (ss.map shv).length = n := H.out.1.1
      rw [List.length_map] at hl1
      obtain ⟨s, hs1⟩ : ∃ s, ss[j]? = some s := ⟨_, List.getElem?_eq_getElem (by omega)⟩
      obtain ⟨b, off, rfl, hb, hc⟩ := H.out.2 (by omega)
      have C1 : At w ⟨b, off + j, none⟩ (shv s) := ⟨by rw [hc j hlt, List.getElem?_map, hs1]; rfl, hb⟩
      have R1 := Lib.hid (HF.out j s hs1)
      have M1 := HL.out j s hs1
      clear hc hs1 hl1
      obtain ⟨A3, n3, c3⟩ := s
      simp only at M1
      have C1 : At w ⟨b, off + j, none⟩ (.slice A3 n3 c3) := C1
      have i1 : (0 : Int) ≤ (j : Int) := by omega
      have i2 : (j : Int) < (n : Int) := by omega
      have z0 := (C1.below hI.out.2.2.2.2).1
      go_wp2_with fail
      refine (room05_any (R1.out.below hI.out.2.2.2.2) M1).mono ?_
      rintro e w2 ⟨A4, c4, rfl, o4, hb4⟩
      clear z0
      have HJ : Hid (RowV 22 w.heap.size w2 A1 j c1 (hs.map shv) ∧ RowV 23 w.heap.size w2 A2 j c2 (hs.map cut2) ∧ Els 41 w.heap.size w2 (hs ++ [(A4, n3 + 2, c4)]) (fun i => F i ++ [71, 72]) ∧ hs.length = j ∧ Below w.heap.size w w2) :=
        ⟨hI.out.1.below hb4, hI.out.2.1.below hb4, (hI.out.2.2.1.below hb4).snoc (by rw [hI.out.2.2.2.1]; exact o4.mono hI.out.2.2.2.2.size), hI.out.2.2.2.1, bt hI.out.2.2.2.2 hb4⟩
      obtain ⟨g4, rfl, _, _⟩ := o4.form (by omega)
      have HC4 := o4.cap.1
      have s1 : (0 : Int) ≤ (n3 : Int) := by omega
      have s2 : (n3 : Int) ≤ (c4 : Int) := by omega
      have BX := Lib.hid (belowA w2 (.cells #[.slice (some ⟨g4, 0, none⟩) (n3 + 2) c4] 22))
      clear hI hb4 o4
      go_wp2_with (first
        | (at_builtin; (refine wpList_appVs rfl (.tmp 23) (.tmp 25) rfl ER.out (us := [.slice (some ⟨g4, 0, none⟩) (n3 + 2) c4]) rfl rfl (HJ.out.1.below BX.out) (RowV.lit (T := 22) (B := 0) _ [.slice (some ⟨g4, 0, none⟩) (n3 + 2) c4] rfl (by simp) (Nat.zero_le _)).rd (by simp [Value.oneCell']) (by omega) (by omega) (Nat.le_trans HJ.out.2.2.2.2.size BX.out.size) ?_); (intro A5 c5 w5 hr5 hb5 hg5; have HK : Hid (RowV 22 w.heap.size w5 A5 (j + 1) c5 (List.map shv (hs ++ [((some ⟨g4, 0, none⟩, n3 + 2, c4) : Sh)])) ∧ RowV 23 w.heap.size w5 A2 j c2 (hs.map cut2) ∧ Els 41 w.heap.size w5 (hs ++ [((some ⟨g4, 0, none⟩, n3 + 2, c4) : Sh)]) (fun i => F i ++ [71, 72]) ∧ hs.length = j ∧ Below w.heap.size w w5) := (by refine ⟨?_, (HJ.out.2.1.below BX.out).other (HJ.out.1.below BX.out) (by decide) hg5, (HJ.out.2.2.1.below BX.out).grown (HJ.out.1.below BX.out) (by decide) hg5, HJ.out.2.2.2.1, (bt HJ.out.2.2.2.2 BX.out).trans hb5⟩; rw [List.map_append]; exact hr5); have z1 := (C1.below HK.out.2.2.2.2).1; have BY := Lib.hid (belowA w5 (.cells #[.slice (some ⟨g4, 0, none⟩) n3 c4] 23)); clear hr5 hb5 hg5 HJ BX))
        | (at_builtin; (refine wpList_appVs rfl (.tmp 27) (.tmp 35) rfl EN.out (us := [.slice (some ⟨g4, 0, none⟩) n3 c4]) rfl rfl (HK.out.2.1.below BY.out) (RowV.lit (T := 23) (B := 0) _ [.slice (some ⟨g4, 0, none⟩) n3 c4] rfl (by simp) (Nat.zero_le _)).rd (by simp [Value.oneCell']) (by omega) (by omega) (Nat.le_trans HK.out.2.2.2.2.size BY.out.size) ?_); intro A6 c6 w6 hr6 hb6 hg6; have HM : Hid (RowV 22 w.heap.size w6 A5 (j + 1) c5 (List.map shv (hs ++ [((some ⟨g4, 0, none⟩, n3 + 2, c4) : Sh)])) ∧ RowV 23 w.heap.size w6 A6 (j + 1) c6 (List.map cut2 (hs ++ [((some ⟨g4, 0, none⟩, n3 + 2, c4) : Sh)])) ∧ Els 41 w.heap.size w6 (hs ++ [((some ⟨g4, 0, none⟩, n3 + 2, c4) : Sh)]) (fun i => F i ++ [71, 72]) ∧ (hs ++ [((some ⟨g4, 0, none⟩, n3 + 2, c4) : Sh)]).length = j + 1 ∧ Below w.heap.size w w6) := (by refine ⟨(HK.out.1.below BY.out).other (HK.out.2.1.below BY.out) (by decide) hg6, ?_, (HK.out.2.2.1.below BY.out).grown (HK.out.2.1.below BY.out) (by decide) hg6, ?_, (bt HK.out.2.2.2.2 BY.out).trans hb6⟩; (rw [List.map_append]; exact hr6); (rw [List.length_append, HK.out.2.2.2.1]; rfl)); clear hr6 hb6 hg6 HK BY z1))
      go_roundw
      case rel => exact ⟨j + 1, _, _, _, _, _, HM, by omega, rfl, rfl, by go_num⟩
      case measure => simp [intOf]; omega
    · obtain rfl : n = j := by omega
      have BX := Lib.hid (belowA wr (.cells #[.int .u64 9] 41))
      have BY := Lib.hid (bt BX.out (belowA (wr.alloc (.cells #[.int .u64 9] 41)) (.cells #[.slice (some ⟨wr.heap.size, 0, none⟩) 1 1] 23)))
      go_wp2_with (at_builtin; (refine wpList_appVs rfl (.tmp 38) (.tmp 40) rfl EN.out (us := [.slice (some ⟨wr.heap.size, 0, none⟩) 1 1]) rfl rfl (hI.out.2.1.below BY.out) (RowV.lit (T := 23) (B := 0) _ [.slice (some ⟨wr.heap.size, 0, none⟩) 1 1] (b := wr.heap.size + 1) (by simp) (by simp) (Nat.zero_le _)).rd (by simp [Value.oneCell']) (by omega) (by omega) (Nat.le_trans hI.out.2.2.2.2.size BY.out.size) ?_); intro A6 c6 w6 hr6 hb6 hg6; have HM : Hid (RowV 22 w.heap.size w6 A1 n c1 (hs.map shv) ∧ Els 41 w.heap.size w6 hs (fun i => F i ++ [71, 72]) ∧ Below w.heap.size w w6) := ⟨(hI.out.1.below BY.out).other (hI.out.2.1.below BY.out) (by decide) hg6, (hI.out.2.2.1.below BY.out).grown (hI.out.2.1.below BY.out) (by decide) hg6, (bt hI.out.2.2.2.2 BY.out).trans hb6⟩)
      go_ret2
      exact ⟨_, _, _, _, hs, _, rfl, HM.out.1, hr6, HM.out.2.1, hI.out.2.2.2.1, HM.out.2.2⟩
end Go.Proofs.YtamfhmmcnlollaaGreat
namespace Go.Proofs.YtamfhmmcnlollaaGreat
open Go.RowKit
set_option linter.unusedVariables false

theorem wrap_u64n5 (x : Int) : ∃ e : Nat, IntKind.u64.wrap x = (e : Int) ∧ e < W := by
  have h := wf_wrap .u64 x
  have h2 : IntKind.u64.min ≤ IntKind.u64.wrap x ∧ IntKind.u64.wrap x ≤ IntKind.u64.max := by simpa [Lit.wf] using h
  have e1 : IntKind.u64.min = 0 := by decide
  have e2 : IntKind.u64.max = 18446744073709551615 := by decide
  exact ⟨(IntKind.u64.wrap x).toNat, by omega, by rw [W_eq]; omega⟩
theorem elTT5 : ElemS Tryz.prog 24 23 := ⟨Tryz.underlying24, by kernel_rfl⟩
theorem elT15 : Elem Tryz.prog 23 41 .u64 := ⟨Tryz.underlying23, by kernel_rfl⟩
set_option maxHeartbeats 8000000 in
set_option maxRecDepth 100000 in
theorem apart05_any {A : Option Addr} {n c B : Nat} {ss : Nat → Sh} {F : Nat → List Nat} {col : Nat → Nat} {w : World} (h : RdV w A n c ((List.range n).map fun j => shv (ss j))) (hE : ∀ j, j < n → OwnS 41 B w (ss j) (F j) ∧ HasCol col (ss j) (2 * j))
    (hrow : ∀ a, A = some a → ∀ j, j < n → ¬ Own1 (ss j) a.block) (hM : ∀ j, j < n → (ss j).2.1 ≤ 67108864) (hn : n ≤ 1048576) (hB : B ≤ w.heap.size) :
    Calls Tryz.prog 13 #[.slice A n c] w (fun e w' => e = .returned (.bool true) ∧ Ex (fun b => (∃ j, j < n ∧ Own1 (ss j) b) ∨ w.heap.size ≤ b) w w') := by
  have HC : Hid (∀ (S : World) (k : Nat), Ex (fun b => (∃ j, j < n ∧ Own1 (ss j) b) ∨ w.heap.size ≤ b) w S → k < n → ∃ b off, A = some ⟨b, off, none⟩ ∧ b < S.heap.size ∧ b < w.heap.size ∧ S.cell? ⟨b, off + k, none⟩ = some (shv (ss k))) := by
    intro S k hx hk
    obtain ⟨b0, off0, e0, hb0, _⟩ := h.2 (by omega)
    obtain ⟨b, off, e, hb, hc⟩ := (h.ex hx (fun a ea hs => by
      subst e0
      injection ea with ea
      subst ea
      rcases hs with ⟨j, hj, hs⟩ | hs
      · exact hrow _ rfl j hj hs
      · simp only at hs; omega)).2 (by omega)
    refine ⟨b, off, e, hb, ?_, by rw [hc k hk, List.getElem?_map, List.getElem?_range hk]; rfl⟩
    rw [e0] at e; injection e with e; injection e with e1 _ _; omega
  have HE := Lib.hid hE
  have HM := Lib.hid hM
  have HTT := Lib.hid elTT5
  have HT1 := Lib.hid elT15
  clear h hE hrow hM
  go_enter Tryz.func13, Tryz.ntmps13
  go_wp2
  go_loopw [3, 5, 6] (fun v3 v5 v6 wr => ∃ (i mk : Nat) (Bw : Option Addr) (q : Nat) (ws : Nat → Sh) (G : Nat → List Nat) (col : Nat → Nat), Hid (J1 41 B w.heap.size wr n i ss ws G col ∧ RowV 23 w.heap.size wr Bw i q ((List.range i).map fun j => shv (ws j)) ∧ Ex (fun b => (∃ j, j < n ∧ Own1 (ss j) b) ∨ w.heap.size ≤ b) w wr ∧ (∀ j, j < i → (ws j).2.1 = (ss j).2.1)) ∧ i ≤ n ∧ v3 = .slice Bw i q ∧ v5 = .int .u64 (mk : Int) ∧ v6 = .int .i64 (i : Int)) (fun _ _ v6 _ => n - (intOf v6).toNat)
  case atStart => exact ⟨0, 900, none, 0, ss, F, col, ⟨⟨HE.out, fun j hj => absurd hj (Nat.not_lt_zero j)⟩, RowV.nil, Ex.refl _ _, fun j hj => absurd hj (Nat.not_lt_zero j)⟩, Nat.zero_le _, rfl, rfl, rfl⟩
  case round =>
    obtain ⟨i, mk, Bw, q, ws, G, col, hI, hi, rfl, rfl, rfl⟩ := hrel
    obtain ⟨wo, rfl⟩ : ∃ wo : World, wo = wr := ⟨_, rfl⟩
    by_cases hlt : i < n
    · have i1 : (0 : Int) ≤ (i : Int) := by omega
      have i2 : (i : Int) < (n : Int) := by omega
      have hni := HM.out i hlt
      obtain ⟨Ai, ni, ci, hsi⟩ : ∃ Ai ni ci, ss i = (Ai, ni, ci) := ⟨_, _, _, rfl⟩
      rw [hsi] at hni
      have HSI := Lib.hid hsi
      clear hsi
      go_wp2
      go_loopw [5, 7, 8] (fun v5 v7 v8 wr => ∃ (k mk : Nat) (D : Option Addr) (p : Nat) (G : Nat → List Nat) (col : Nat → Nat), Hid (J1 41 B w.heap.size wr n i ss ws G col ∧ OwnS 41 w.heap.size wr (D, k, p) ((G i).take k) ∧ HasCol col (D, k, p) (2 * i + 1) ∧ RowV 23 w.heap.size wr Bw i q ((List.range i).map fun j => shv (ws j)) ∧ Ex (fun b => (∃ j, j < n ∧ Own1 (ss j) b) ∨ w.heap.size ≤ b) w wr) ∧ k ≤ ni ∧ v5 = .int .u64 (mk : Int) ∧ v7 = .slice D k p ∧ v8 = .int .i64 (k : Int)) (fun _ _ v8 _ => ni - (intOf v8).toNat)
      case atStart => exact ⟨0, mk, none, 0, G, col, ⟨hI.out.1, by simpa using Own.nil, HasCol.none, hI.out.2.1, hI.out.2.2.1⟩, Nat.zero_le _, rfl, rfl, rfl⟩
      case round =>
        obtain ⟨k, mk, D, p, G, col, hJ, hk, rfl, rfl, rfl⟩ := hrel
        obtain ⟨b, off, ea, hb, hbw, hc⟩ := HC.out wr i hJ.out.2.2.2.2 hlt
        rw [HSI.out] at hc
        have hc1 : wr.cell? ⟨b, off + i, none⟩ = some (.slice Ai ni ci) := hc
        subst ea
        clear hc
        by_cases hltk : k < ni
        · have HO : Hid (Own .u64 41 B wr Ai ni ci (G i)) := by have := (hJ.out.1.1 i hlt).1; rw [HSI.out] at this; exact this
          obtain ⟨g, eg, hg1, hg2⟩ := HO.out.form (by omega)
          have HSG : Hid (ss i = (some ⟨g, 0, none⟩, ni, ci)) := HSI.out.trans (by rw [eg])
          subst eg
          have hcell := HO.out.cell (i := k) hltk
          have hfr := HO.out.frozen (i := k)
          have hln := HO.out.len
          generalize nth (G i) k = d at hcell
          obtain ⟨e, he, _⟩ := wrap_u64n5 ((mk : Int) + 1)
          have he1 := lay he
          have i4 : (0 : Int) ≤ (k : Int) := by omega
          have i5 : (k : Int) < (ni : Int) := by omega
          have E1 : Hid (Ex (Own1 (ss i)) wr (wr.setCell ⟨g, k, none⟩ (.int .u64 (e : Int)))) := Ex.setCell _ _ _ _ ⟨_, by rw [HSG.out], rfl⟩
          have JA := Lib.hid ((hJ.out.1.write hlt E1.out (ys := (G i).set k e) (by rw [HSG.out]; exact HO.out.stored)).below (belowA _ (.cells #[.int .u64 (e : Int)] 41)))
          have OD := Lib.hid ((keep_own hJ.out.2.1 hJ.out.2.2.1 (hJ.out.1.1 i hlt).2 (by omega) E1.out).alloc (.cells #[.int .u64 (e : Int)] 41))
          have RW := Lib.hid ((keep_row hJ.out.2.2.2.1 (hJ.out.1.1 i hlt).1 (by decide) E1.out).below (belowA _ (.cells #[.int .u64 (e : Int)] 41)))
          have hsz : w.heap.size ≤ (wr.setCell ⟨g, k, none⟩ (.int .u64 (e : Int))).heap.size := Nat.le_trans hJ.out.2.2.2.2.size E1.out.size
          obtain ⟨⟨D', k', p'⟩, w3, hr3, hn3, ho3, _, _, hgr3, hfr3⟩ := kin_app (s := (none, 0, 0)) (G := []) (B2 := 0) (e := (G i).take k) (g := (D, k, p)) (ad := ⟨wr.heap.size, 0, none⟩) (c2 := 1) (x := e) 23 HT1.out Own.nil (by simpa using OD.out) (.inr (fun a b h1 => by cases h1)) (Rd.litn (k := .u64) (t := 41) (b := wr.heap.size) (wr.setCell ⟨g, k, none⟩ (.int .u64 (e : Int))) [e] (by simp [World.setCell]) (by simp)) (by simp only; omega) (Nat.le_trans hsz (belowA _ _).size)
          have hk' : k' = k + 1 := hn3
          subst hk'
          have R3 : Hid ((Builtin.append_ #[23, 23] 23 #[.slice D k p, .slice (some ⟨wr.heap.size, 0, none⟩) 1 1]).run Tryz.prog ((wr.setCell ⟨g, k, none⟩ (.int .u64 (e : Int))).alloc (.cells #[.int .u64 (e : Int)] 41)) = .ok (.slice D' (k + 1) p') w3) := hr3
          have E3 := Lib.hid (Ex.own1 (w0 := w) hgr3)
          have HCD : Hid (HasCol (upc col ((wr.setCell ⟨g, k, none⟩ (.int .u64 (e : Int))).alloc (.cells #[.int .u64 (e : Int)] 41)).heap.size (2 * i + 1)) (D, k, p) (2 * i + 1)) := hJ.out.2.2.1.up (OwnS.lt OD.out)
          have HCN : Hid (HasCol (upc col ((wr.setCell ⟨g, k, none⟩ (.int .u64 (e : Int))).alloc (.cells #[.int .u64 (e : Int)] 41)).heap.size (2 * i + 1)) (D', k + 1, p') (2 * i + 1)) := by
            rcases hfr3 with h1 | h1
            · intro a ea
              simp only at h1 ea
              exact HCD.out a (by rw [← h1]; exact ea)
            · exact HasCol.new h1
          have HN : Hid (J1 41 B w.heap.size w3 n i ss ws (fun j => if j = i then (G i).set k e else G j) (upc col ((wr.setCell ⟨g, k, none⟩ (.int .u64 (e : Int))).alloc (.cells #[.int .u64 (e : Int)] 41)).heap.size (2 * i + 1)) ∧ OwnS 41 w.heap.size w3 (D', k + 1, p') (((fun j => if j = i then (G i).set k e else G j) i).take (k + 1)) ∧ HasCol (upc col ((wr.setCell ⟨g, k, none⟩ (.int .u64 (e : Int))).alloc (.cells #[.int .u64 (e : Int)] 41)).heap.size (2 * i + 1)) (D', k + 1, p') (2 * i + 1) ∧ RowV 23 w.heap.size w3 Bw i q ((List.range i).map fun j => shv (ws j)) ∧ Ex (fun b => (∃ j, j < n ∧ Own1 (ss j) b) ∨ w.heap.size ≤ b) w w3) := by
            refine ⟨JA.out.up.other HCD.out E3.out, ?_, HCN.out, keep_row RW.out OD.out (by decide) E3.out, ((hJ.out.2.2.2.2.trans (E1.out.mono fun b hb => .inl ⟨i, hlt, hb⟩)).trans (Ex.alloc _ _)).trans (E3.out.mono fun b ⟨a, e2, e3⟩ => .inr (by have := (OD.out.lies a e2).1; omega))⟩
            have h2 : ((G i).set k e).take (k + 1) = (G i).take k ++ [e] := by
              rw [List.take_succ_eq_append_getElem (by simpa using (by omega : k < (G i).length)), List.take_set_of_le (Nat.le_refl k)]
              simp
            simp only [if_true]
            rw [h2]
            exact ho3
          clear hJ HO JA OD RW E1 E3 HCD HCN hr3 ho3 hgr3 hfr3 he hn3 hln
          go_wp2_with (at_builtin; refine Lib.wpList_append_run _ rfl (.tmp 37) (.tmp 39) 23 23 rfl _ _ rfl rfl _ _ R3.out ?_)
          go_roundw
          case rel => exact ⟨k + 1, e, D', p', _, _, HN, by omega, rfl, rfl, by go_num⟩
          case measure => simp [intOf]; omega
        · obtain rfl : k = ni := by omega
          have HLI : Hid ((G i).take k = G i) := by
            have h1 := (hJ.out.1.1 i hlt).1.len
            rw [HSI.out] at h1
            exact List.take_of_length_le (by rw [h1]; exact Nat.le_refl _)
          have hsz := hJ.out.2.2.2.2.size
          have hkk : (ss i).2.1 = k := by rw [HSI.out]
          have HKK := Lib.hid hkk
          clear hkk
          go_wp2_with (at_builtin; (refine wpList_appVs rfl (.tmp 41) (.tmp 43) rfl HTT.out (us := [.slice D k p]) rfl rfl (hJ.out.2.2.2.1.below (belowA _ _)) (RowV.lit (T := 23) (B := 0) _ [.slice D k p] rfl (by simp) (Nat.zero_le _)).rd (by simp [Value.oneCell']) (by omega) (by simp; omega) (Nat.le_trans hsz (belowA _ _).size) ?_); intro A' c' w' hr' hb' hg')
          have HN : Hid (J1 41 B w.heap.size w' n (i + 1) ss (fun j => if j = i then (D, k, p) else ws j) G col ∧ RowV 23 w.heap.size w' A' (i + 1) c' ((List.range (i + 1)).map fun j => shv ((fun j => if j = i then (D, k, p) else ws j) j)) ∧ Ex (fun b => (∃ j, j < n ∧ Own1 (ss j) b) ∨ w.heap.size ≤ b) w w' ∧ (∀ j, j < i + 1 → ((fun j => if j = i then (D, k, p) else ws j) j).2.1 = (ss j).2.1)) := by
            have hrow := hJ.out.2.2.2.1.below (belowA wr (.cells #[.slice D k p] 23))
            have hx := Ex.own1 (w0 := w) hg'
            refine ⟨((hJ.out.1.below (belowA _ _)).row hrow (by decide) hx).snoc ?_ hJ.out.2.2.1, by rw [range_snoc]; exact hr', (hJ.out.2.2.2.2.trans (Ex.alloc _ _)).trans (hx.mono fun b ⟨a, e2, e3⟩ => .inr (by have := (hrow.lies a e2).1; omega)), fun j hj => ?_⟩
            · have h1 := hJ.out.2.1
              rw [HLI.out] at h1
              exact keep_ownR (h1.below (belowA _ _)) hrow (by decide) hx
            · by_cases hji : j = i
              · subst hji; simpa using HKK.out.symm
              · simp only [if_neg hji]; exact hI.out.2.2.2 j (by omega)
          clear hJ hr' hb' hg'
          go_roundw
          case rel => exact ⟨i + 1, mk, A', c', _, _, _, HN, by omega, by go_num, rfl, by go_num⟩
          case measure => simp [intOf]; omega
    · obtain rfl : i = n := by omega
      have HI3 : Hid (J3 41 B w.heap.size wo i 0 0 ss ws ss G G col ∧ RowV 23 w.heap.size wo Bw i q ((List.range i).map fun j => shv (ws j)) ∧ Ex (fun b => (∃ j, j < i ∧ Own1 (ss j) b) ∨ w.heap.size ≤ b) w wo ∧ (∀ j, j < i → (ws j).2.1 = (ss j).2.1)) :=
        ⟨⟨hI.out.1.1, hI.out.1.2, fun j hj => absurd hj (Nat.not_lt_zero j), fun j hj => ⟨[], by simp⟩, fun j _ _ => rfl⟩, hI.out.2⟩
      clear hI
      go_wp2
      go_loopw [4, 5, 9] (fun v4 v5 v9 wr => ∃ (k mk : Nat) (Bg : Option Addr) (qg : Nat) (ws gs : Nat → Sh) (C : Nat → List Nat) (col : Nat → Nat), Hid (J3 41 B w.heap.size wr i k k ss ws gs G C col ∧ RowV 23 w.heap.size wr Bw i q ((List.range i).map fun j => shv (ws j)) ∧ RowV 23 w.heap.size wr Bg k qg ((List.range k).map fun j => shv (gs j)) ∧ Ex (fun b => (∃ j, j < i ∧ Own1 (ss j) b) ∨ w.heap.size ≤ b) w wr ∧ (∀ a b, Bw = some a → Bg = some b → a.block ≠ b.block) ∧ (∀ j, k ≤ j → j < i → (ws j).2.1 = (ss j).2.1) ∧ (∀ j, j < k → (gs j).2.1 ≤ 67108880)) ∧ k ≤ i ∧ v4 = .slice Bg k qg ∧ v5 = .int .u64 (mk : Int) ∧ v9 = .int .i64 (k : Int)) (fun _ _ v9 _ => i - (intOf v9).toNat)
      case atStart => exact ⟨0, mk, none, 0, ws, ss, G, col, ⟨HI3.out.1, HI3.out.2.1, RowV.nil, HI3.out.2.2.1, (fun a b _ h => by cases h), fun j _ hj => HI3.out.2.2.2 j hj, fun j hj => absurd hj (Nat.not_lt_zero j)⟩, Nat.zero_le _, rfl, rfl, rfl⟩
      case round =>
        obtain ⟨k, mk, Bg, qg, ws, gs, C, col, hI, hk, rfl, rfl, rfl⟩ := hrel
        obtain ⟨wo, rfl⟩ : ∃ wo : World, wo = wr := ⟨_, rfl⟩
        by_cases hlt : k < i
        · have i1 : (0 : Int) ≤ (k : Int) := by omega
          have i2 : (k : Int) < (i : Int) := by omega
          have hnk := HM.out k hlt
          obtain ⟨Ak, nk, ck, hsk⟩ : ∃ Ak nk ck, ss k = (Ak, nk, ck) := ⟨_, _, _, rfl⟩
          rw [hsk] at hnk
          simp only at hnk
          have HSK := Lib.hid hsk
          obtain ⟨b, off, ea, hb, hbw, hc⟩ := HC.out wo k hI.out.2.2.2.1 hlt
          rw [hsk] at hc
          have hc1 : wo.cell? ⟨b, off + k, none⟩ = some (.slice Ak nk ck) := hc
          obtain ⟨gb, egb, hgb1, hgb2⟩ := hI.out.2.1.form (by omega)
          have HST : Hid (OwnS 41 B wo (Ak, nk + 0, ck) (C k) ∧ HasCol col (Ak, nk + 0, ck) (2 * k) ∧ Kin (ss k) (Ak, nk + 0, ck) ∧ (ws k).2.1 = nk + 0) := by
            have h1 := hI.out.1.1 k hlt
            rw [hsk] at h1
            rw [hI.out.1.2.2.2.2 k (Nat.le_refl _) hlt]
            exact ⟨h1.1, h1.2, .inl ⟨by rw [hsk], by rw [hsk]⟩, by rw [hI.out.2.2.2.2.2.1 k (Nat.le_refl _) hlt, hsk]; rfl⟩
          subst ea
          subst egb
          clear hc hsk
          go_wp2
          clear hc1
          go_loopw [5, 10, 11] (fun v5 v10 v11 wr => ∃ (r mk : Nat) (Dg : Option Addr) (pg : Nat) (ws : Nat → Sh) (C : Nat → List Nat) (col : Nat → Nat), Hid (J3 41 B w.heap.size wr i k (k + 1) ss ws gs G C col ∧ OwnS 41 B wr (Dg, nk + r, pg) (C k) ∧ HasCol col (Dg, nk + r, pg) (2 * k) ∧ Kin (ss k) (Dg, nk + r, pg) ∧ (ws k).2.1 = nk + r ∧ RowV 23 w.heap.size wr (some ⟨gb, 0, none⟩) i q ((List.range i).map fun j => shv (ws j)) ∧ RowV 23 w.heap.size wr Bg k qg ((List.range k).map fun j => shv (gs j)) ∧ Ex (fun b => (∃ j, j < i ∧ Own1 (ss j) b) ∨ w.heap.size ≤ b) w wr ∧ (∀ j, k + 1 ≤ j → j < i → (ws j).2.1 = (ss j).2.1) ∧ (∀ a, Dg = some a → Own1 (ss k) a.block ∨ w.heap.size ≤ a.block)) ∧ r ≤ 16 ∧ v5 = .int .u64 (mk : Int) ∧ v10 = .slice Dg (nk + r) pg ∧ v11 = .int .i64 (r : Int)) (fun _ _ v11 _ => 16 - (intOf v11).toNat)
          case atStart => exact ⟨0, mk, Ak, ck, ws, C, col, ⟨hI.out.1.less, HST.out.1, HST.out.2.1, HST.out.2.2.1, HST.out.2.2.2, hI.out.2.1, hI.out.2.2.1, hI.out.2.2.2.1, fun j hj hj2 => hI.out.2.2.2.2.2.1 j (by omega) hj2, fun a ea => .inl ⟨a, by rw [HSK.out]; exact ea, rfl⟩⟩, by omega, rfl, rfl, rfl⟩
          case round =>
            obtain ⟨r, mk, Dg, pg, ws, C, col, hJ, hr, rfl, rfl, rfl⟩ := hrel
            by_cases hlr : r < 16
            · obtain ⟨e, he, _⟩ := wrap_u64n5 ((mk : Int) + 1)
              have he1 := lay he
              obtain ⟨ex, hex⟩ := hJ.out.1.2.2.2.1 k hlt
              have hsz := hJ.out.2.2.2.2.2.2.2.1.size
              obtain ⟨⟨Dg', ng', pg'⟩, w2, hr2, hn2, ho2, hs2, hk2, hgr2, hfr2⟩ := kin_app (w := wr.alloc (.cells #[.int .u64 (e : Int)] 41)) (s := ss k) (G := G k) (B2 := B) (B := B) (e := ex) (g := (Dg, nk + r, pg)) (ad := ⟨wr.heap.size, 0, none⟩) (c2 := 1) (x := e) 23 HT1.out ((hJ.out.1.1 k hlt).1.alloc _) (by rw [← hex]; exact hJ.out.2.1.alloc _) hJ.out.2.2.2.1 (Rd.lit1 (t := 41) wr e) (by simp only; omega) (by have := (belowA wr (.cells #[.int .u64 (e : Int)] 41)).size; omega)
              have hng' : ng' = nk + r + 1 := hn2
              subst hng'
              have W1 : Hid (w.heap.size ≤ (wr.alloc (.cells #[.int .u64 (e : Int)] 41)).heap.size) := Nat.le_trans hsz (belowA _ _).size
              have OG1 : Hid (OwnS 41 B (wr.alloc (.cells #[.int .u64 (e : Int)] 41)) (Dg, nk + r, pg) (C k)) := hJ.out.2.1.alloc _
              have E2 : Hid (Ex (Own1 (Dg, nk + r, pg)) (wr.alloc (.cells #[.int .u64 (e : Int)] 41)) w2) := Ex.own1 (w0 := w) hgr2
              have HC1 : Hid (HasCol (upc col (wr.alloc (.cells #[.int .u64 (e : Int)] 41)).heap.size (2 * k)) (Dg, nk + r, pg) (2 * k)) := hJ.out.2.2.1.up (OwnS.lt OG1.out)
              have HC2 : Hid (HasCol (upc col (wr.alloc (.cells #[.int .u64 (e : Int)] 41)).heap.size (2 * k)) (Dg', nk + r + 1, pg') (2 * k)) := by
                rcases hfr2 with h1 | h1
                · intro a ea
                  simp only at h1 ea
                  exact HC1.out a (by rw [← h1]; exact ea)
                · exact HasCol.new h1
              have J2 := Lib.hid (((hJ.out.1.below (belowA wr (.cells #[.int .u64 (e : Int)] 41))).up (c := 2 * k)).grow hlt HC1.out E2.out hs2)
              have OG2 : Hid (OwnS 41 B w2 (Dg', nk + r + 1, pg') (C k ++ [e])) := by
                rw [hex, List.append_assoc]; exact ho2
              have RW2 := Lib.hid (keep_row (hJ.out.2.2.2.2.2.1.below (belowA wr (.cells #[.int .u64 (e : Int)] 41))) OG1.out (by decide) E2.out)
              have RG2 := Lib.hid (keep_row (hJ.out.2.2.2.2.2.2.1.below (belowA wr (.cells #[.int .u64 (e : Int)] 41))) OG1.out (by decide) E2.out)
              have GB2 : Hid (∀ a, Dg' = some a → Own1 (ss k) a.block ∨ w.heap.size ≤ a.block) := fun a ea => by
                rcases hfr2 with h1 | h1
                · simp only at h1; exact hJ.out.2.2.2.2.2.2.2.2.2 a (by rw [← h1]; exact ea)
                · exact .inr (Nat.le_trans W1.out (h1 a ea))
              have X2 : Hid (Ex (fun b => (∃ j, j < i ∧ Own1 (ss j) b) ∨ w.heap.size ≤ b) w w2) := (hJ.out.2.2.2.2.2.2.2.1.trans (Ex.alloc _ _)).trans (E2.out.mono fun b ⟨a, e2, e3⟩ => by
                rcases hJ.out.2.2.2.2.2.2.2.2.2 a e2 with h1 | h1
                · exact .inl ⟨k, hlt, by rw [← e3]; exact h1⟩
                · exact .inr (by omega))
              have KN2 := Lib.hid hk2
              have HLN := Lib.hid hJ.out.2.2.2.2.1
              have HLS := Lib.hid hJ.out.2.2.2.2.2.2.2.2.1
              have R2 : Hid ((Builtin.append_ #[23, 23] 23 #[.slice Dg (nk + r) pg, .slice (some ⟨wr.heap.size, 0, none⟩) 1 1]).run Tryz.prog (wr.alloc (.cells #[.int .u64 (e : Int)] 41)) = .ok (.slice Dg' (nk + r + 1) pg') w2) := hr2
              clear hJ hr2 hn2 ho2 hs2 hk2 hgr2 hfr2 hsz OG1 HC1 E2 W1 hex he
              obtain ⟨Aw, nw, cw, hwk⟩ : ∃ Aw nw cw, ws k = (Aw, nw, cw) := ⟨_, _, _, rfl⟩
              have hnw : nw = nk + r := by have := HLN.out; rw [hwk] at this; exact this
              subst hnw
              have OW2 : Hid (OwnS 41 w.heap.size w2 (Aw, nk + r, cw) (C k)) := by have := (J2.out.2.1 k hlt).1; rw [hwk] at this; exact this
              have hsz2 := X2.out.size
              have hcw : w2.cell? ⟨gb, k, none⟩ = some (.slice Aw (nk + r) cw) := by
                rw [RW2.out.cell hlt, List.getElem?_map, List.getElem?_range hlt]
                simp only [Option.map_some, hwk]
                rfl
              obtain ⟨⟨Aw', nw', cw'⟩, w4, hr4, hn4, ho4, _, _, hgr4, hfr4⟩ := kin_app (w := w2.alloc (.cells #[.int .u64 (e : Int)] 41)) (s := (none, 0, 0)) (G := []) (B2 := 0) (B := w.heap.size) (e := C k) (g := (Aw, nk + r, cw)) (ad := ⟨w2.heap.size, 0, none⟩) (c2 := 1) (x := e) 23 HT1.out Own.nil (by simpa using OW2.out.alloc (.cells #[.int .u64 (e : Int)] 41)) (.inr (fun a b h1 => by cases h1)) (Rd.lit1 (t := 41) w2 e) (by simp only; omega) (Nat.le_trans hsz2 (belowA _ _).size)
              have hnw' : nw' = nk + r + 1 := hn4
              subst hnw'
              have R4 : Hid ((Builtin.append_ #[23, 23] 23 #[.slice Aw (nk + r) cw, .slice (some ⟨w2.heap.size, 0, none⟩) 1 1]).run Tryz.prog (w2.alloc (.cells #[.int .u64 (e : Int)] 41)) = .ok (.slice Aw' (nk + r + 1) cw') w4) := hr4
              have OW3 : Hid (OwnS 41 w.heap.size (w2.alloc (.cells #[.int .u64 (e : Int)] 41)) (ws k) (C k)) := by rw [hwk]; exact OW2.out.alloc _
              have E4 : Hid (Ex (Own1 (ws k)) (w2.alloc (.cells #[.int .u64 (e : Int)] 41)) w4) := by rw [hwk]; exact Ex.own1 (w0 := w) hgr4
              have HW1 : Hid (HasCol (upc (upc col (wr.alloc (.cells #[.int .u64 (e : Int)] 41)).heap.size (2 * k)) (w2.alloc (.cells #[.int .u64 (e : Int)] 41)).heap.size (2 * k + 1)) (ws k) (2 * k + 1)) := (J2.out.2.1 k hlt).2.up (OwnS.lt OW3.out)
              have HW2 : Hid (HasCol (upc (upc col (wr.alloc (.cells #[.int .u64 (e : Int)] 41)).heap.size (2 * k)) (w2.alloc (.cells #[.int .u64 (e : Int)] 41)).heap.size (2 * k + 1)) (Aw', nk + r + 1, cw') (2 * k + 1)) := by
                rcases hfr4 with h1 | h1
                · intro a ea
                  simp only at h1 ea
                  exact HW1.out a (by rw [hwk]; rw [← h1]; exact ea)
                · exact HasCol.new h1
              have J4 := Lib.hid (((J2.out.below (belowA w2 (.cells #[.int .u64 (e : Int)] 41))).up (c := 2 * k + 1)).wgrow hlt E4.out (s := (Aw', nk + r + 1, cw')) (x := e) (by simpa using ho4) HW2.out)
              have HC3 : Hid (HasCol (upc (upc col (wr.alloc (.cells #[.int .u64 (e : Int)] 41)).heap.size (2 * k)) (w2.alloc (.cells #[.int .u64 (e : Int)] 41)).heap.size (2 * k + 1)) (Dg', nk + r + 1, pg') (2 * k)) := HC2.out.up (OwnS.lt (OG2.out.alloc (.cells #[.int .u64 (e : Int)] 41)))
              have OG4 := Lib.hid (keep_own (OG2.out.alloc (.cells #[.int .u64 (e : Int)] 41)) HC3.out HW1.out (by omega) E4.out)
              have RW4 := Lib.hid (keep_row (RW2.out.below (belowA w2 (.cells #[.int .u64 (e : Int)] 41))) OW3.out (by decide) E4.out)
              have RG4 := Lib.hid (keep_row (RG2.out.below (belowA w2 (.cells #[.int .u64 (e : Int)] 41))) OW3.out (by decide) E4.out)
              have E5 : Hid (Ex (fun b => ∃ a, (some ⟨gb, 0, none⟩ : Option Addr) = some a ∧ a.block = b) w4 (w4.setCell ⟨gb, k, none⟩ (.slice Aw' (nk + r + 1) cw'))) := Ex.setCell _ _ _ _ ⟨_, rfl, rfl⟩
              have X4 : Hid (Ex (fun b => (∃ j, j < i ∧ Own1 (ss j) b) ∨ w.heap.size ≤ b) w (w4.setCell ⟨gb, k, none⟩ (.slice Aw' (nk + r + 1) cw'))) := ((X2.out.trans (Ex.alloc w2 (.cells #[.int .u64 (e : Int)] 41))).trans (E4.out.mono fun b ⟨a, e2, e3⟩ => .inr (by have := (OW3.out.lies a e2).1; omega))).trans (E5.out.mono fun b ⟨a, e2, e3⟩ => .inr (by injection e2 with e2; rw [← e2] at e3; simp only at e3; omega))
              have hcw4 : w4.cell? ⟨gb, k, none⟩ = some (.slice Aw (nk + r) cw) := by
                rw [RW4.out.cell hlt, List.getElem?_map, List.getElem?_range hlt]
                simp only [Option.map_some, hwk]
                rfl
              have hfw4 := RW4.out.frozen (i := k)
              have HN : Hid (J3 41 B w.heap.size (w4.setCell ⟨gb, k, none⟩ (.slice Aw' (nk + r + 1) cw')) i k (k + 1) ss (fun j => if j = k then (Aw', nk + r + 1, cw') else ws j) gs G (fun j => if j = k then C k ++ [e] else C j) (upc (upc col (wr.alloc (.cells #[.int .u64 (e : Int)] 41)).heap.size (2 * k)) (w2.alloc (.cells #[.int .u64 (e : Int)] 41)).heap.size (2 * k + 1)) ∧ OwnS 41 B (w4.setCell ⟨gb, k, none⟩ (.slice Aw' (nk + r + 1) cw')) (Dg', nk + (r + 1), pg') ((fun j => if j = k then C k ++ [e] else C j) k) ∧ HasCol (upc (upc col (wr.alloc (.cells #[.int .u64 (e : Int)] 41)).heap.size (2 * k)) (w2.alloc (.cells #[.int .u64 (e : Int)] 41)).heap.size (2 * k + 1)) (Dg', nk + (r + 1), pg') (2 * k) ∧ Kin (ss k) (Dg', nk + (r + 1), pg') ∧ ((fun j => if j = k then (Aw', nk + r + 1, cw') else ws j) k).2.1 = nk + (r + 1) ∧ RowV 23 w.heap.size (w4.setCell ⟨gb, k, none⟩ (.slice Aw' (nk + r + 1) cw')) (some ⟨gb, 0, none⟩) i q ((List.range i).map fun j => shv ((fun j => if j = k then (Aw', nk + r + 1, cw') else ws j) j)) ∧ RowV 23 w.heap.size (w4.setCell ⟨gb, k, none⟩ (.slice Aw' (nk + r + 1) cw')) Bg k qg ((List.range k).map fun j => shv (gs j)) ∧ Ex (fun b => (∃ j, j < i ∧ Own1 (ss j) b) ∨ w.heap.size ≤ b) w (w4.setCell ⟨gb, k, none⟩ (.slice Aw' (nk + r + 1) cw')) ∧ (∀ j, k + 1 ≤ j → j < i → ((fun j => if j = k then (Aw', nk + r + 1, cw') else ws j) j).2.1 = (ss j).2.1) ∧ (∀ a, Dg' = some a → Own1 (ss k) a.block ∨ w.heap.size ≤ a.block)) := by
                refine ⟨J4.out.row RW4.out (by decide) E5.out, ?_, HC3.out, KN2.out, by simp only [if_true]; omega, ?_, RG4.out.ex E5.out (fun a ea ⟨a2, e2, e3⟩ => hI.out.2.2.2.2.1 a2 a e2 ea e3), X4.out, fun j hj hj2 => ?_, GB2.out⟩
                · simp only [if_true]; exact keep_ownR OG4.out RW4.out (by decide) E5.out
                · rw [range_set hlt]; exact RW4.out.stored
                · simp only [if_neg (show j ≠ k by omega)]; exact HLS.out j hj hj2
              clear J2 OG2 RW2 RG2 X2 HLN HLS OW2 OW3 E4 HW1 HW2 J4 HC3 OG4 RW4 RG4 E5 X4 hr4 hn4 ho4 hgr4 hfr4 hsz2 hwk HC2 GB2 KN2
              go_wp2_with (first
                | (at_builtin; refine Lib.wpList_append_run _ rfl (.tmp 61) (.tmp 63) 23 23 rfl _ _ rfl rfl _ _ R2.out ?_)
                | (at_builtin; refine Lib.wpList_append_run _ rfl (.tmp 70) (.tmp 72) 23 23 rfl _ _ rfl rfl _ _ R4.out ?_))
              go_roundw
              case rel => exact ⟨r + 1, e, Dg', pg', _, _, _, HN, by omega, rfl, rfl, by go_num⟩
              case measure => simp [intOf]; omega
            · have hsz := hJ.out.2.2.2.2.2.2.2.1.size
              have hwo : gb < wr.heap.size := (hJ.out.2.2.2.2.2.1.lies _ rfl).2
              obtain rfl : r = 16 := by omega
              clear hlr
              go_wp2_with (at_builtin; (refine wpList_appVs2 rfl (.tmp 75) (.tmp 77) rfl HTT.out (us := [.slice Dg (nk + 16) pg]) rfl rfl (hJ.out.2.2.2.2.2.2.1.below (belowA _ _)) (RowV.lit (T := 23) (B := 0) _ [.slice Dg (nk + 16) pg] rfl (by simp) (Nat.zero_le _)).rd (by simp [Value.oneCell']) (by omega) (by simp; omega) (Nat.le_trans hsz (belowA _ _).size) ?_); intro A' c' w' hr' hb' hg' hat')
              have HN : Hid (J3 41 B w.heap.size w' i (k + 1) (k + 1) ss ws (fun j => if j = k then (Dg, nk + 16, pg) else gs j) G C col ∧ RowV 23 w.heap.size w' (some ⟨gb, 0, none⟩) i q ((List.range i).map fun j => shv (ws j)) ∧ RowV 23 w.heap.size w' A' (k + 1) c' ((List.range (k + 1)).map fun j => shv ((fun j => if j = k then (Dg, nk + 16, pg) else gs j) j)) ∧ Ex (fun b => (∃ j, j < i ∧ Own1 (ss j) b) ∨ w.heap.size ≤ b) w w' ∧ (∀ a b, (some ⟨gb, 0, none⟩ : Option Addr) = some a → A' = some b → a.block ≠ b.block) ∧ (∀ j, k + 1 ≤ j → j < i → (ws j).2.1 = (ss j).2.1) ∧ (∀ j, j < k + 1 → ((fun j => if j = k then (Dg, nk + 16, pg) else gs j) j).2.1 ≤ 67108880)) := by
                have hrow := hJ.out.2.2.2.2.2.2.1.below (belowA wr (.cells #[.slice Dg (nk + 16) pg] 23))
                have hx := Ex.own1 (w0 := w) hg'
                refine ⟨((hJ.out.1.below (belowA _ _)).row hrow (by decide) hx).snoc (keep_ownR (hJ.out.2.1.below (belowA _ _)) hrow (by decide) hx) hJ.out.2.2.1, (hJ.out.2.2.2.2.2.1.below (belowA _ _)).ex hx (fun a ea ⟨a2, e2, e3⟩ => hI.out.2.2.2.2.1 a a2 ea e2 e3.symm), by rw [range_snoc]; exact hr', (hJ.out.2.2.2.2.2.2.2.1.trans (Ex.alloc _ _)).trans (hx.mono fun b ⟨a, e2, e3⟩ => .inr (by have := (hrow.lies a e2).1; omega)), fun a b2 ea eb hab => ?_, hJ.out.2.2.2.2.2.2.2.2.1, fun j hj => ?_⟩
                rotate_left
                · by_cases hjk : j = k
                  · subst hjk; simp only [if_true]; omega
                  · simp only [if_neg hjk]; exact hI.out.2.2.2.2.2.2 j (by omega)
                rcases hat' b2 eb with ⟨a3, e3, e4⟩ | h1
                · exact hI.out.2.2.2.2.1 a a3 ea e3 (by rw [e4, hab])
                · injection ea with ea
                  subst ea
                  have := (belowA wr (.cells #[.slice Dg (nk + 16) pg] 23)).size
                  simp only at hab
                  omega
              clear hJ hr' hb' hg' hat'
              go_roundw
              case rel => exact ⟨k + 1, mk, A', c', _, _, _, _, HN, by omega, by go_num, rfl, by go_num⟩
              case measure => simp [intOf]; omega
        · obtain rfl : k = i := by omega
          have HJ := Lib.hid hI
          clear hI
          go_wp2
          go_loopw [12] (fun v12 wr => ∃ k5 : Nat, Hid (Below wo.heap.size wo wr) ∧ k5 ≤ k ∧ v12 = .int .i64 (k5 : Int)) (fun v12 _ => k - (intOf v12).toNat)
          case atStart => exact ⟨0, Below.refl _ _, Nat.zero_le _, rfl⟩
          case round =>
            obtain ⟨k5, hB5, hk5, rfl⟩ := hrel
            by_cases hlt5 : k5 < k
            · obtain ⟨b, off, ea, hb, hbw, hc⟩ := HC.out wo k5 HJ.out.out.2.2.2.1 hlt5
              obtain ⟨gb, egb, _, hgb2⟩ := HJ.out.out.2.1.form (by omega)
              obtain ⟨gg, egg, _, hgg2⟩ := HJ.out.out.2.2.1.form (by omega)
              obtain ⟨As, ns, cs, hs⟩ : ∃ As ns cs, ss k5 = (As, ns, cs) := ⟨_, _, _, rfl⟩
              obtain ⟨Aw, nw, cw, hw⟩ : ∃ Aw nw cw, ws k5 = (Aw, nw, cw) := ⟨_, _, _, rfl⟩
              obtain ⟨Ag, ng, cg, hg⟩ : ∃ Ag ng cg, gs k5 = (Ag, ng, cg) := ⟨_, _, _, rfl⟩
              obtain ⟨e, hCe⟩ := HJ.out.out.1.2.2.2.1 k5 hlt5
              have OS : Hid (Own .u64 41 B wo As ns cs (G k5)) := by have := (HJ.out.out.1.1 k5 hlt5).1; rw [hs] at this; exact this
              have OW : Hid (Own .u64 41 w.heap.size wo Aw nw cw (C k5)) := by have := (HJ.out.out.1.2.1 k5 hlt5).1; rw [hw] at this; exact this
              have OG : Hid (Own .u64 41 B wo Ag ng cg (C k5)) := by have := (HJ.out.out.1.2.2.1 k5 hlt5).1; rw [hg] at this; exact this
              have hnsw : ns ≤ nw := by have h1 := OS.out.len; have h2 := OW.out.len; rw [hCe, List.length_append] at h2; omega
              have hwc := OW.out.cap.1
              have hnsM : ns ≤ 67108864 := by have := HM.out k5 hlt5; rw [hs] at this; exact this
              have hngM : ng ≤ 1099511627776 := by have := HJ.out.out.2.2.2.2.2.2 k5 hlt5; rw [hg] at this; simp only at this; omega
              have RT : Hid (Rd .u64 wo Aw ns cw (G k5)) := by
                have h1 := OW.out.rd.upto hnsw
                have h2 := OS.out.len
                rw [hCe, ← h2, List.take_left, h2] at h1
                exact h1
              have c1 : wo.cell? ⟨b, off + k5, none⟩ = some (.slice As ns cs) := by rw [hc, hs]; rfl
              have HWR : Hid (RowV 23 w.heap.size wo (some ⟨gb, 0, none⟩) k q ((List.range k).map fun j => shv (ws j))) := by have := HJ.out.out.2.1; rw [egb] at this; exact this
              have HGR : Hid (RowV 23 w.heap.size wo (some ⟨gg, 0, none⟩) k qg ((List.range k).map fun j => shv (gs j))) := by have := HJ.out.out.2.2.1; rw [egg] at this; exact this
              have c2 : wo.cell? ⟨gb, k5, none⟩ = some (.slice Aw nw cw) := by
                rw [HWR.out.cell hlt5, List.getElem?_map, List.getElem?_range hlt5]
                simp only [Option.map_some, hw]
                rfl
              have c3 : wo.cell? ⟨gg, k5, none⟩ = some (.slice Ag ng cg) := by
                rw [HGR.out.cell hlt5, List.getElem?_map, List.getElem?_range hlt5]
                simp only [Option.map_some, hg]
                rfl
              have T1 : Hid (∀ W' : World, Below wo.heap.size wo W' → At W' ⟨b, off + k5, none⟩ (.slice As ns cs)) := fun W' h => ⟨(h.cell (p := ⟨b, off + k5, none⟩) hb).trans c1, Nat.lt_of_lt_of_le hb h.size⟩
              have T2 : Hid (∀ W' : World, Below wo.heap.size wo W' → At W' ⟨gb, k5, none⟩ (.slice Aw nw cw)) := fun W' h => ⟨(h.cell (p := ⟨gb, k5, none⟩) hgb2).trans c2, Nat.lt_of_lt_of_le hgb2 h.size⟩
              have T3 : Hid (∀ W' : World, Below wo.heap.size wo W' → At W' ⟨gg, k5, none⟩ (.slice Ag ng cg)) := fun W' h => ⟨(h.cell (p := ⟨gg, k5, none⟩) hgg2).trans c3, Nat.lt_of_lt_of_le hgg2 h.size⟩
              have i1 : (0 : Int) ≤ (k5 : Int) := by omega
              have i2 : (k5 : Int) < (k : Int) := by omega
              have i3 : (0 : Int) ≤ (ns : Int) := by omega
              have i4 : (ns : Int) ≤ (cw : Int) := by omega
              subst ea egb egg
              clear hc c1 c2 c3 HWR HGR hs hw hg hCe
              have f1 := (T1.out wr hB5.out).1
              have f2 := (T2.out wr hB5.out).1
              have f3 := (T3.out wr hB5.out).1
              have g2 := At.grow (T2.out wr hB5.out)
              have g3 := At.grow (T3.out wr hB5.out)
              go_wp2_with fail
              refine wp_region_grow none [(true, 0), (true, 1), (true, 2), (true, 3), (true, 4), (true, 5), (true, 6), (true, 7), (false, 8), (true, 9), (true, 10), (true, 11), (true, 12), (true, 13), (true, 14), (true, 15), (true, 16), (true, 17), (true, 18), (true, 19), (true, 20), (true, 21), (true, 22), (true, 23), (true, 24), (false, 25), (true, 26), (true, 27)] (by kernel_rfl) (by kernel_rfl) ?_
              repeat (refine ord_pas (by rfl) (fun K hK => ?_); go_simp; refine hK _ _ (fun w' hw' => (by first | (go_simp; done) | (go_simp; intro hh; cases hh))) ?_; clear hK K)
              clear g2 g3 f1 f2 f3
              (refine ord_call (by rfl) (fun K hK => ?_); go_simp; refine hK _ _ ?_; clear hK K)
              have HBD : Hid (Below wo.heap.size wo wr.drew) := bt hB5.out (below_drewN _ 1)
              refine (same5k_any (OG.out.rd.below HBD.out) (OW.out.rd.below HBD.out) rfl hngM).mono ?_
              rintro e w3 ⟨rfl, hb3⟩
              refine ⟨_, rfl, (Grow.of_below hb3), ?_⟩
              (refine ord_norm (fun K hK => ?_); go_simp; refine hK _ ?_; clear hK K)
              have HB3 : Hid (Below wo.heap.size wo w3) := bt HBD.out hb3
              have f1 := (T1.out w3 HB3.out).1
              have f2 := (T2.out w3 HB3.out).1
              have g1 := At.grow0 (T1.out w3 HB3.out)
              have g2 := At.grow0 (T2.out w3 HB3.out)
              repeat (refine ord_pas (by rfl) (fun K hK => ?_); go_simp; refine hK _ _ (fun w' hw' => (by first | (go_simp; done) | (go_simp; intro hh; cases hh))) ?_; clear hK K)
              clear g1 g2 f1 f2
              (refine ord_call (by rfl) (fun K hK => ?_); go_simp; refine hK _ _ ?_; clear hK K)
              refine (same5k_any (OS.out.rd.below HB3.out) (RT.out.below HB3.out) rfl (by omega)).mono ?_
              rintro e w4 ⟨rfl, hb4⟩
              refine ⟨_, rfl, (Grow.of_below hb4), ?_⟩
              (refine ord_norm (fun K hK => ?_); go_simp; refine hK _ ?_; clear hK K)
              repeat (refine ord_pas (by rfl) (fun K hK => ?_); go_simp; refine hK _ _ (fun w' hw' => (by first | (go_simp; done) | (go_simp; intro hh; cases hh))) ?_; clear hK K)
              refine ord_nil ?_
              have HN : Hid (Below wo.heap.size wo w4) := bt HB3.out hb4
              clear hB5 hb3 hb4 HB3 HBD
              go_wp2
              go_roundw
              case rel => exact ⟨k5 + 1, HN, by omega, by go_num⟩
              case measure => simp [intOf]; omega
            · obtain rfl : k5 = k := by omega
              have HEND := Lib.hid (HJ.out.out.2.2.2.1.trans (Ex.of_below (S := fun b => (∃ j, j < k5 ∧ Own1 (ss j) b) ∨ w.heap.size ≤ b) hB5.out))
              go_wp2
              go_ret
              exact ⟨rfl, HEND.out⟩
theorem apart05L_any {A : Option Addr} {n c B B2 : Nat} {l : List Sh} {F : Nat → List Nat} {w : World} (h : RowV 23 B w A n c (l.map shv)) (hE : Els 41 B2 w l F) (hA : Apt l)
    (hM : ∀ (i : Nat) (s : Sh), l[i]? = some s → s.2.1 ≤ 67108864) (hn : n ≤ 1048576) (hB : B2 ≤ w.heap.size) :
    Calls Tryz.prog 13 #[.slice A n c] w (fun e w' => e = .returned (.bool true) ∧ Ex (fun b => Blk l b ∨ w.heap.size ≤ b) w w') := by
  have hl : l.length = n := by have := h.rd.1.1; rwa [List.length_map] at this
  obtain ⟨col, hcol⟩ := hA.col
  have hg : ∀ j, j < n → l[j]? = some ((l[j]?).getD (none, 0, 0)) := fun j hj => by
    rw [List.getElem?_eq_getElem (by omega)]; rfl
  have hm : l.map shv = (List.range n).map fun j => shv ((l[j]?).getD (none, 0, 0)) := by
    apply List.ext_getElem
    · simp [hl]
    · intro i h1 h2
      have hi : i < l.length := by simpa using h1
      simp [List.getElem?_eq_getElem hi]
  have h' := h.rd
  rw [hm] at h'
  refine (apart05_any (ss := fun j => (l[j]?).getD (none, 0, 0)) (F := F) (col := col) (B := B2) h' (fun j hj => ⟨hE j _ (hg j hj), hcol j _ (hg j hj)⟩) ?_ (fun j hj => hM j _ (hg j hj)) hn hB).mono ?_
  · intro a ea j hj ⟨b, eb, hb⟩
    exact (RowV.ne_own h (hE j _ (hg j hj)) (by decide)) a b ea eb hb.symm
  · rintro e w' ⟨rfl, hx⟩
    refine ⟨rfl, hx.mono fun b hb => ?_⟩
    rcases hb with ⟨j, hj, a, ea, hb⟩ | hb
    · exact .inl ⟨j, _, a, hg j hj, ea, hb⟩
    · exact .inr hb
end Go.Proofs.YtamfhmmcnlollaaGreat
namespace Go.Proofs.YtamfhmmcnlollaaGreat
open Go.RowKit
set_option linter.unusedVariables false

theorem copied05r_any {A : Option Addr} {n c : Nat} {xs : List Nat} {w : World} (h : Rd .u64 w A n c xs) (hL : n ≤ 1099511627776) :
    Calls Tryz.prog 15 #[.slice A n c] w (fun e w' => ∃ A' c', e = .returned (.slice A' n c') ∧ Own .u64 41 w.heap.size w' A' n c' xs ∧ Below w.heap.size w w') := by
  have H := Lib.hid h
  have HE := Lib.hid elN
  clear h
  go_enter Tryz.func15, Tryz.ntmps15
  go_wp2_with (at_builtin; (refine wpList_app rfl (.tmp 3) (.tmp 4) rfl HE.out (t := 41) (k := .u64) (B := w.heap.size) (xs := []) (ys := xs) rfl rfl (Own.lit0 w (Nat.le_refl _)) (H.out.alloc _) (by omega) (by simp) ?_); intro B1 e1 w1 ho1 hb1 _ _)
  go_ret
  rw [Nat.zero_add] at ho1
  exact ⟨_, _, rfl, ho1, (belowA _ _).trans hb1⟩
theorem both05 (a b k : Nat) (xs ys : List Nat) (n m : Nat) (N : Int) (hn : n ≤ 20) (hm : m ≤ 20) (hl : ys.length = m) : ∃ (X : List (List Nat)) (ns : List Int),
    (∀ ⦃w : World⦄ ⦃vA vB vK : Value⦄ ⦃A3 A4 : Option Addr⦄ ⦃c3 c4 : Nat⦄, Num w vA a 30 → Num w vB b 30 → Num w vK k 30 → Nums w A3 n c3 xs (List.replicate n 30) → Nums w A4 m c4 ys (List.replicate m 30) →
      Calls Tryz.prog 10 #[vA, vB, vK, .slice A3 n c3, .slice A4 m c4, .int .i64 N] w (GAs w X ns)) ∧
    (∀ ⦃w : World⦄ ⦃vA vB vK : Value⦄ ⦃A3 A4 : Option Addr⦄ ⦃c3 c4 : Nat⦄, Num w vA a 30 → Num w vB b 30 → Num w vK k 30 → Nums w A3 n c3 xs (List.replicate n 30) → Nums w A4 m c4 ys (List.replicate m 30) →
      Calls Tryz.prog 9 #[vA, vB, vK, .slice A3 n c3, .slice A4 m c4, .int .i64 N] w (GWs w X ns)) := by
  have hE : ∃ vx vy ng, ∀ x' y' n', ExtOk a b x' y' n' → x' = vx ∧ y' = vy ∧ n' = ng := by
    by_cases h : ∃ x y n, ExtOk a b x y n
    · obtain ⟨x, y, n, h⟩ := h
      exact ⟨x, y, n, fun _ _ _ h' => ext_uniq h' h⟩
    · exact ⟨0, 0, false, fun x y n h' => absurd ⟨x, y, n, h'⟩ h⟩
  obtain ⟨vx, vy, ng, hE⟩ := hE
  obtain ⟨xi, eri, CI1, CI2⟩ := inv_bothO a b
  obtain ⟨xc, yc, erc, CC1, CC2⟩ := crt_bothO xs ys n m (by omega) hl
  obtain ⟨xr, exr, err, CR1, CR2⟩ := root_bothO a N
  obtain ⟨xt, cnt, ert, CT1, CT2⟩ := count_bothO a k
  exact ⟨_, _, fun w vA vB vK A3 A4 c3 c4 h1 h2 h3 h4 h5 => asked_any h1 h2 h3 h4 h5 hn hm hE CI1 CC1 CR1 CT1, fun w vA vB vK A3 A4 c3 c4 h1 h2 h3 h4 h5 => wanted_any h1 h2 h3 h4 h5 hn hm hE CI2 CC2 CR2 CT2⟩
/-- headers and what they read as -/
def Hds (w : World) (ss : List Sh) (F : Nat → List Nat) : Prop := ∀ (i : Nat) (s : Sh), ss[i]? = some s → Rd .u64 w s.1 s.2.1 s.2.2 (F i)
theorem Hds.below {w w' : World} {ss : List Sh} {F : Nat → List Nat} (h : Hds w ss F) (hb : Below w.heap.size w w') : Hds w' ss F := fun i s hi => (h i s hi).below hb
theorem Els.hds {t : TypeId} {B : Nat} {w : World} {ss : List Sh} {F : Nat → List Nat} (h : Els t B w ss F) : Hds w ss F := fun i s hi => (h i s hi).rd
theorem Nums.heads {w : World} {A : Option Addr} {n c : Nat} {xs : List Nat} (h : Nums w A n c xs (List.replicate n 30)) :
    ∃ (ss : List Sh) (F : Nat → List Nat), RdV w A n c (ss.map shv) ∧ ss.length = n ∧ Hds w ss F ∧ (∀ i, i < n → All W (F i) ∧ val W (F i) = nth xs i ∧ (F i).length ≤ 30) := by
  have key : ∀ i : Nat, ∃ p : Sh × List Nat, i < n → (∀ b off, A = some ⟨b, off, none⟩ → w.cell? ⟨b, off + i, none⟩ = some (shv p.1)) ∧ Rd .u64 w p.1.1 p.1.2.1 p.1.2.2 p.2 ∧ All W p.2 ∧ val W p.2 = nth xs i ∧ p.2.length ≤ 30 := by
    intro i
    by_cases hi : i < n
    · obtain ⟨b, off, v, e, hb, hc, A', n', c', ys, rfl, h1, h2, h3, h4⟩ := h.at hi
      rw [nth_replicate hi] at h4
      refine ⟨((A', n', c'), ys), fun _ => ⟨fun b2 off2 e2 => ?_, h1, h2, h3, by rw [h1.len]; exact h4⟩⟩
      rw [e] at e2
      injection e2 with e2
      injection e2 with e3 e4
      subst e3 e4
      exact hc
    · exact ⟨((none, 0, 0), []), fun h => absurd h hi⟩
  obtain ⟨g, hg⟩ := Classical.axiomOfChoice key
  refine ⟨(List.range n).map fun i => (g i).1, fun i => (g i).2, ⟨⟨by simp, h.1.2.2⟩, fun hn => ?_⟩, by simp, fun i s hi => ?_, fun i hi => ⟨(hg i hi).2.2.1, (hg i hi).2.2.2.1, (hg i hi).2.2.2.2⟩⟩
  · obtain ⟨b, off, e, hb, _⟩ := h.2 hn
    refine ⟨b, off, e, hb, fun i hi => ?_⟩
    rw [(hg i hi).1 b off e, List.getElem?_map, List.getElem?_map, List.getElem?_range hi]
    rfl
  · rw [List.getElem?_map] at hi
    by_cases hin : i < n
    · rw [List.getElem?_range hin] at hi
      simp at hi
      subst hi
      exact (hg i hin).2.1
    · rw [List.getElem?_eq_none (by simp; omega)] at hi
      cases hi
theorem given_nums {T t : TypeId} {B B2 : Nat} {w : World} {A : Option Addr} {n c : Nat} {hs : List Sh} {v : Value} {F : Nat → List Nat} {xs : List Nat} (hr : RowV T B w A (n + 1) c (hs.map cut2 ++ [v])) (he : Els t B2 w hs (fun i => F i ++ [71, 72])) (hl : hs.length = n)
    (hF : ∀ i, i < n → All W (F i) ∧ val W (F i) = nth xs i ∧ (F i).length ≤ 30) (hx : xs.length = n) : Nums w A n c xs (List.replicate n 30) := by
  have hrd := hr.rd
  refine ⟨⟨hx, by simp, by have := hrd.1.2; omega⟩, fun hn => ?_⟩
  obtain ⟨b, off, e, hb, hc⟩ := hrd.2 (by omega)
  refine ⟨b, off, e, hb, fun i hi => ?_⟩
  obtain ⟨s, hs1⟩ : ∃ s, hs[i]? = some s := ⟨_, List.getElem?_eq_getElem (by omega)⟩
  have o := he i s hs1
  have hlen := o.len
  rw [List.length_append] at hlen
  obtain ⟨f1, f2, f3⟩ := hF i hi
  refine ⟨cut2 s, ?_, ?_⟩
  · rw [hc i (by omega), List.getElem?_append_left (by simpa using (by omega : i < hs.length)), List.getElem?_map, hs1]; rfl
  · have h2 : s.2.1 - 2 = (F i).length := by simp at hlen; omega
    have h3 := o.rd.upto (j := s.2.1 - 2) (by omega)
    rw [List.take_left' h2.symm] at h3
    rw [nth_replicate hi]
    exact ⟨_, _, _, _, rfl, h3, f1, f2, by omega⟩
/-- the header that lies there -/
theorem given_at {T : TypeId} {B : Nat} {w : World} {A : Option Addr} {n c : Nat} {hs : List Sh} {v : Value} (hr : RowV T B w A (n + 1) c (hs.map cut2 ++ [v])) (hl : hs.length = n) : ∃ g, A = some ⟨g, 0, none⟩ ∧ At w ⟨g, n, none⟩ v ∧ ∀ i s, hs[i]? = some s → At w ⟨g, i, none⟩ (cut2 s) := by
  obtain ⟨g, rfl, h1, h2⟩ := hr.form (by omega)
  refine ⟨g, rfl, ⟨?_, h2⟩, fun i s hi => ⟨?_, h2⟩⟩
  · rw [hr.cell (by omega), List.getElem?_append_right (by simp [hl])]; simp [hl]
  · have := (List.getElem?_eq_some_iff.1 hi).1
    rw [hr.cell (by omega), List.getElem?_append_left (by simpa using this), List.getElem?_map, hi]; rfl
theorem RowV.litm {T : TypeId} {B : Nat} (w : World) (hB : B ≤ w.heap.size) : RowV T B (w.alloc (.cells #[] T)) (some ⟨w.heap.size, 0, none⟩) 0 0 [] := RowV.lit w [] rfl (by simp) hB
theorem RdV.upto {w : World} {A : Option Addr} {n c m : Nat} {vs : List Value} (h : RdV w A n c vs) (hm : m ≤ n) : RdV w A m c (vs.take m) := by
  refine ⟨⟨by rw [List.length_take, h.1.1]; omega, by have := h.1.2; omega⟩, fun h0 => ?_⟩
  obtain ⟨b, off, e, hb, hc⟩ := h.2 (by omega)
  exact ⟨b, off, e, hb, fun i hi => by rw [hc i (by omega), List.getElem?_take_of_lt hi]⟩
section
variable {P : Program} {l : List Oper} {Q : Exit → Act → World → Prop} {R R1 : World → World → Prop} {G : Nat → Value → World → Prop}
theorem flt_appV {i k bytes n c m c2 B : Nat} {TT T : TypeId} {z : Value} {A A2 : Option Addr} {vs us : List Value} {o : Oper} {rest : List (Nat × Nat)} {a : Act} {w : World} (s x : Operand) (ho' : opAt l i = some o) (hg : o.guard = none)
    (hop : o.op = .call { callee := .builtin .append, args := #[s, x], argTypes := #[TT, TT] }) (he : ElemK P TT T z k bytes)
    (hs : a.eval s = .slice A n c) (hx : a.eval x = .slice A2 m c2) (hown : RowK k T B w A n c vs) (hr : RdK k w A2 m c2 us) (hv : ∀ u ∈ us, u.oneCell' = true) (hm : 0 < m) (hlen : n + m ≤ 1099511627776) (hB : B ≤ w.heap.size)
    (hR : ∀ w', Below B w w' → R w w')
    (h : ∀ A' c' w', RowK k T B w' A' (n + m) c' (vs ++ us) → Below B w w' → wpF P l.toArray Q R R1 rest G (a.put o.dst (.slice A' (n + m) c')) w') : wpF P l.toArray Q R R1 ((3, i) :: rest) G a w := by
  refine flt_actX ho' fun K hK => ?_
  rw [if_pos (by simp [Region.wanted, hg])]
  obtain ⟨A', c', w', hrun, h2, h3, _⟩ := run_appK (P := P) o.type he hown hr hv hm hlen hB
  unfold Oper.wp execOp
  simp only [hop, resolve, invoke, builtin, Sem.run_bind, Sem.run_pure, Result.andThen_ok, List.map_toArray, List.map_cons, List.map_nil, hs, hx, hrun]
  exact hK _ _ ⟨hR _ h3, h A' c' w' h2 h3⟩
end
section
variable {P : Program} {l : List Oper} {Q : Exit → Act → World → Prop} {S : Nat → Prop} {R1 : World → World → Prop} {G : Nat → Value → World → Prop}
theorem flt_pasS {i : Nat} {o : Oper} {rest : List (Nat × Nat)} {a : Act} {w : World} (ho' : opAt l i = some o)
    (h : ∀ K : Value → Act → Prop, (∀ v a', (∀ w', Ex S w w' → if Region.wanted o (yielded l.toArray a.tmps) then pasOf (· = v) w' ((execOp a.eval o).run P w') else undef = v) → wpF P l.toArray Q (Ex S) R1 rest G a' w → K v a') →
      if Region.wanted o (yielded l.toArray a.tmps) then pasOf (fun v => K v (a.put o.dst v)) w ((execOp a.eval o).run P w) else K undef (a.put o.dst undef)) : wpF P l.toArray Q (Ex S) R1 ((0, i) :: rest) G a w := flt_pas ho' h (Ex.refl _ _)
end
theorem Ex.of_grow {S : Nat → Prop} {a b : World} (h : Grow none a b) : Ex S a b := by
  obtain ⟨h1, h2, h3, h4, h5⟩ := h
  exact ⟨h1, h2, h3, h4, fun i hi _ => h5 i hi (by simp)⟩
theorem Ex.of_low {B : Nat} {S : Nat → Prop} {w w' : World} (h : Below B w w') (hS : ∀ j, B ≤ j → S j) : Ex S w w' := ⟨h.os, h.tape, h.output, h.size, fun k hk hn => h.block k (Nat.lt_of_not_le fun e => hn (hS k e))⟩
theorem At.ex5 {w w' : World} {p : Addr} {v : Value} {S : Nat → Prop} (h : At w p v) (hx : Ex S w w') (hs : ¬ S p.block) : At w' p v := by
  refine ⟨?_, Nat.lt_of_lt_of_le h.2 hx.size⟩
  have := hx.block p.block h.2 hs
  unfold World.cell? at *
  rw [this]
  exact h.1
theorem RdV.k1 {w : World} {A : Option Addr} {n c : Nat} {vs : List Value} (h : RdV w A n c vs) : RdK 1 w A n c vs := by
  refine ⟨⟨by rw [Nat.mul_one]; exact h.1.1, h.1.2⟩, fun h0 => ?_⟩
  obtain ⟨b, off, e, hb, hc⟩ := h.2 h0
  exact ⟨b, off, e, hb, fun i hi => hc i (by omega)⟩
theorem Blk.of_app {a b : List Sh} {j : Nat} (h : Blk (a ++ b) j) : Blk a j ∨ Blk b j := by
  obtain ⟨i, s, ad, h1, h2, h3⟩ := h
  by_cases hi : i < a.length
  · rw [List.getElem?_append_left hi] at h1; exact .inl ⟨i, s, ad, h1, h2, h3⟩
  · rw [List.getElem?_append_right (by omega)] at h1; exact .inr ⟨_, s, ad, h1, h2, h3⟩
theorem get_app {P : Sh → Prop} {s1 s2 : List Sh} (h1 : ∀ (i : Nat) (s : Sh), s1[i]? = some s → P s) (h2 : ∀ (i : Nat) (s : Sh), s2[i]? = some s → P s) : ∀ (i : Nat) (s : Sh), (s1 ++ s2)[i]? = some s → P s := by
  intro i s hi
  by_cases h : i < s1.length
  · rw [List.getElem?_append_left h] at hi; exact h1 i s hi
  · rw [List.getElem?_append_right (by omega)] at hi; exact h2 _ s hi
end Go.Proofs.YtamfhmmcnlollaaGreat
