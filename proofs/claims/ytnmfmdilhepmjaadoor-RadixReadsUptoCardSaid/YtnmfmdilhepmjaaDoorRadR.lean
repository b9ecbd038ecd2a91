/-
  The document's texts (surdref06): ParseBase, Parse. RadixReads.
-/
import Derived.Test.YtnmfmdilhepmjaaDoorRad6
namespace Go.Proofs.YtnmfmdilhepmjaaDoor
open Go.RowKit
set_option linter.unusedVariables false

/-- what surdref06.ParseBase gives -/
def NumP6 (w : World) (s : ByteArray) (b : Nat) (e : Ending) (w' : World) : Prop :=
  (okText s b ∧ GNE w (val b (digs s)) (s.size + 1) 0 e w') ∨ (¬ okText s b ∧ Keeps (.tuple #[.slice none 0 0, .int .i64 5]) w e w')
set_option maxHeartbeats 2000000 in
set_option maxRecDepth 100000 in
theorem parseBase6_any {s : ByteArray} {b : Nat} {b' : Int} {w : World} (eb : b' = (b : Int)) (hb : 2 ≤ b) (hb36 : b ≤ 36) (hsz : s.size ≤ 1048576) :
    Calls Tryd.prog 29 #[.string s, .int .i64 b'] w (NumP6 w s b) := by
  subst eb
  have HE := Lib.hid elI
  have d1 : decide ((b : Int) < 2) = false := by simp; omega
  have d2 : decide ((36 : Int) < (b : Int)) = false := by simp; omega
  by_cases h0 : s.size = 0
  · have h2 : ((s.size : Int) == 0) = true := by rw [beq_iff_eq]; omega
    have HB : Hid (¬ okText s b) := fun h => absurd h.1 (by omega)
    go_enter Tryd.func29, Tryd.ntmps29
    go_wp2
    go_ret2
    exact .inr ⟨HB.out, rfl, Below.refl _ _⟩
  · have h2 : ((s.size : Int) == 0) = false := by rw [beq_eq_false_iff_ne]; omega
    by_cases h3 : 1 < s.size
    · have d3 : decide ((1 : Int) < (s.size : Int)) = true := by simp; omega
      have h4 := byt_at s 0 (by omega)
      have h5 : 0 < s.size := by omega
      by_cases h6 : byt s 0 = 48
      · have HB : Hid (¬ okText s b) := fun h => h.2.1 ⟨h3, h6⟩
        have q : (((s[0].toNat : Nat) : Int) == 48) = true := by rw [h4, h6]; rfl
        clear h4 h6
        go_enter Tryd.func29, Tryd.ntmps29
        go_wp2
        go_ret2
        exact .inr ⟨HB.out, rfl, Below.refl _ _⟩
      · have HOK : Hid ((∀ k, k < s.size → dgv (byt s k) < b) → okText s b) := fun h => ⟨by omega, fun h7 => h6 h7.2, h⟩
        have q : (((s[0].toNat : Nat) : Int) == 48) = false := by rw [h4, beq_eq_false_iff_ne]; omega
        clear h4 h6
        go_enter Tryd.func29, Tryd.ntmps29
        go_wp2_with fail
        go_loopw [6, 7] (fun dv iv wr => ∃ (k : Nat) (B : Option Addr) (m e : Nat), Hid (Own .i64 3 w.heap.size wr B m e ((digs s).take k) ∧ Below w.heap.size w wr ∧ ∀ j, j < k → dgv (byt s (s.size - 1 - j)) < b) ∧ k ≤ s.size ∧ dv = .slice B m e ∧ iv = .int .i64 ((s.size : Int) - 1 - (k : Int))) (fun _ iv _ => (intOf iv + 1).toNat)
        case atStart => exact ⟨0, none, 0, 0, ⟨Own.nil, Below.refl _ _, fun j hj => by omega⟩, Nat.zero_le _, rfl, by go_num⟩
        case round =>
          obtain ⟨k, B, m, e, hI, hk, rfl, rfl⟩ := hrel
          have hml : Hid (m = k) := by show _ = _; have := hI.out.1.len; rw [List.length_take, digs_len] at this; omega
          by_cases hlt : k < s.size
          · obtain ⟨M, hM⟩ : ∃ M, M = s.size - 1 - k := ⟨_, rfl⟩
            have em : (s.size : Int) - 1 - (k : Int) = (M : Int) := by omega
            rw [em]
            have hM1 : M < s.size := by omega
            have i1 : (0 : Int) ≤ (M : Int) := by omega
            have i2 : (M : Int) < (s.size : Int) := by omega
            have HAT : Hid (s[M].toNat = byt s M) := byt_at s M hM1
            have hbt : byt s M < 256 := by rw [← HAT.out]; exact UInt8.toNat_lt _
            have CV := Lib.hid (value6_any (w := wr) (b := b) (b' := (b : Int)) (c := byt s M) rfl hb36 hbt)
            by_cases hd : dgv (byt s M) < b
            · have HD : Hid (dgI b (byt s M) = ((dgv (byt s M) : Nat) : Int)) := by show _ = _; rw [dgI, if_pos hd]
              rw [HD.out] at CV
              have HT : Hid ((digs s).take (k + 1) = (digs s).take k ++ [dgv (byt s M)]) := by
                show _ = _
                rw [take_nth (by rw [digs_len]; exact hlt), nth_digs hlt, hM]
              have HZ : Hid (∀ j, j < k + 1 → dgv (byt s (s.size - 1 - j)) < b) := fun j hj => by
                by_cases hjk : j = k
                · rw [hjk, ← hM]; exact hd
                · exact hI.out.2.2 j (by omega)
              have q1 : decide ((dgv (byt s M) : Int) < 0) = false := by simp
              have em2 : (M : Int) - 1 = (s.size : Int) - 1 - ((k + 1 : Nat) : Int) := by omega
              have HM := Lib.hid em2
              clear hM hd HD em em2 hbt
              generalize dgv (byt s M) = d at *
              go_wp2_with (first | (at_builtin; (refine wpList_app rfl (.tmp 42) (.tmp 44) rfl HE.out (t := 3) (k := .i64) (B := w.heap.size) (ys := [d]) rfl rfl (hI.out.1.alloc _) (Rd.lit1 wr _) (by have := hml.out; omega) (by have := hI.out.2.1.size; simp; omega) ?_); intro B1 e1 w3 ho3 hb3 _ _) | (go_at_call 59; rw [HAT.out]; refine CV.out.mono ?_; rintro e w' ⟨rfl, rfl⟩))
              go_roundw
              case rel => exact ⟨k + 1, _, _, _, ⟨by rw [HT.out]; exact ho3, (hI.out.2.1.alloc hI.out.2.1.size _).trans hb3, HZ.out⟩, by omega, rfl, by rw [← HM.out]⟩
              case measure => simp [intOf]
            · have HD : Hid (dgI b (byt s M) = -1) := by show _ = _; rw [dgI, if_neg hd]
              rw [HD.out] at CV
              have HB : Hid (¬ okText s b) := fun h => hd (h.2.2 M hM1)
              clear hd HD em hbt hM
              go_wp2_with (go_at_call 59; rw [HAT.out]; refine CV.out.mono ?_; rintro e w' ⟨rfl, rfl⟩)
              go_ret2
              exact .inr ⟨HB.out, rfl, hI.out.2.1⟩
          · obtain rfl : k = s.size := by omega
            have em : (s.size : Int) - 1 - (s.size : Int) = -1 := by omega
            rw [em]
            have HG : Hid (okText s b) := HOK.out fun k hk => by
              have := hI.out.2.2 (s.size - 1 - k) (by omega)
              rwa [show s.size - 1 - (s.size - 1 - k) = k by omega] at this
            have HF : Hid (Own .i64 3 w.heap.size wr B m e (digs s) ∧ Below w.heap.size w wr) := by
              have h1 := hI.out.1
              rw [List.take_of_length_le (by rw [digs_len]; exact Nat.le_refl _)] at h1
              exact ⟨h1, hI.out.2.1⟩
            have C := Lib.hid (fromDigits6_any (b := b) HF.out.1.rd.ints (okDigs_nats (digs_all HG.out.2.2)) rfl hb hb36 (by have := hml.out; omega))
            rw [toN_nats] at C
            clear hI em
            go_wp2_with fail
            refine C.out.mono ?_
            rintro e w3 ⟨A3, n3, c3, rfl, ho3, hb3, hl3⟩
            have HR : Hid (Own .u64 25 w.heap.size w3 A3 n3 c3 (dg W (val b (digs s))) ∧ Below w.heap.size w w3 ∧ n3 ≤ s.size + 1) := ⟨ho3.mono HF.out.2.size, bt HF.out.2 hb3, by have := hml.out; omega⟩
            clear ho3 hb3
            go_wp2
            go_ret2
            exact .inl ⟨HG.out, _, _, _, rfl, HR.out⟩
    · have d3 : decide ((1 : Int) < (s.size : Int)) = false := by simp; omega
      have HOK : Hid ((∀ k, k < s.size → dgv (byt s k) < b) → okText s b) := fun h => ⟨by omega, fun h7 => h3 h7.1, h⟩
      go_enter Tryd.func29, Tryd.ntmps29
      go_wp2_with fail
      go_loopw [6, 7] (fun dv iv wr => ∃ (k : Nat) (B : Option Addr) (m e : Nat), Hid (Own .i64 3 w.heap.size wr B m e ((digs s).take k) ∧ Below w.heap.size w wr ∧ ∀ j, j < k → dgv (byt s (s.size - 1 - j)) < b) ∧ k ≤ s.size ∧ dv = .slice B m e ∧ iv = .int .i64 ((s.size : Int) - 1 - (k : Int))) (fun _ iv _ => (intOf iv + 1).toNat)
      case atStart => exact ⟨0, none, 0, 0, ⟨Own.nil, Below.refl _ _, fun j hj => by omega⟩, Nat.zero_le _, rfl, by go_num⟩
      case round =>
        obtain ⟨k, B, m, e, hI, hk, rfl, rfl⟩ := hrel
        have hml : Hid (m = k) := by show _ = _; have := hI.out.1.len; rw [List.length_take, digs_len] at this; omega
        by_cases hlt : k < s.size
        · obtain ⟨M, hM⟩ : ∃ M, M = s.size - 1 - k := ⟨_, rfl⟩
          have em : (s.size : Int) - 1 - (k : Int) = (M : Int) := by omega
          rw [em]
          have hM1 : M < s.size := by omega
          have i1 : (0 : Int) ≤ (M : Int) := by omega
          have i2 : (M : Int) < (s.size : Int) := by omega
          have HAT : Hid (s[M].toNat = byt s M) := byt_at s M hM1
          have hbt : byt s M < 256 := by rw [← HAT.out]; exact UInt8.toNat_lt _
          have CV := Lib.hid (value6_any (w := wr) (b := b) (b' := (b : Int)) (c := byt s M) rfl hb36 hbt)
          by_cases hd : dgv (byt s M) < b
          · have HD : Hid (dgI b (byt s M) = ((dgv (byt s M) : Nat) : Int)) := by show _ = _; rw [dgI, if_pos hd]
            rw [HD.out] at CV
            have HT : Hid ((digs s).take (k + 1) = (digs s).take k ++ [dgv (byt s M)]) := by
              show _ = _
              rw [take_nth (by rw [digs_len]; exact hlt), nth_digs hlt, hM]
            have HZ : Hid (∀ j, j < k + 1 → dgv (byt s (s.size - 1 - j)) < b) := fun j hj => by
              by_cases hjk : j = k
              · rw [hjk, ← hM]; exact hd
              · exact hI.out.2.2 j (by omega)
            have q1 : decide ((dgv (byt s M) : Int) < 0) = false := by simp
            have em2 : (M : Int) - 1 = (s.size : Int) - 1 - ((k + 1 : Nat) : Int) := by omega
            have HM := Lib.hid em2
            clear hM hd HD em em2 hbt
            generalize dgv (byt s M) = d at *
            go_wp2_with (first | (at_builtin; (refine wpList_app rfl (.tmp 42) (.tmp 44) rfl HE.out (t := 3) (k := .i64) (B := w.heap.size) (ys := [d]) rfl rfl (hI.out.1.alloc _) (Rd.lit1 wr _) (by have := hml.out; omega) (by have := hI.out.2.1.size; simp; omega) ?_); intro B1 e1 w3 ho3 hb3 _ _) | (go_at_call 59; rw [HAT.out]; refine CV.out.mono ?_; rintro e w' ⟨rfl, rfl⟩))
            go_roundw
            case rel => exact ⟨k + 1, _, _, _, ⟨by rw [HT.out]; exact ho3, (hI.out.2.1.alloc hI.out.2.1.size _).trans hb3, HZ.out⟩, by omega, rfl, by rw [← HM.out]⟩
            case measure => simp [intOf]
          · have HD : Hid (dgI b (byt s M) = -1) := by show _ = _; rw [dgI, if_neg hd]
            rw [HD.out] at CV
            have HB : Hid (¬ okText s b) := fun h => hd (h.2.2 M hM1)
            clear hd HD em hbt hM
            go_wp2_with (go_at_call 59; rw [HAT.out]; refine CV.out.mono ?_; rintro e w' ⟨rfl, rfl⟩)
            go_ret2
            exact .inr ⟨HB.out, rfl, hI.out.2.1⟩
        · obtain rfl : k = s.size := by omega
          have em : (s.size : Int) - 1 - (s.size : Int) = -1 := by omega
          rw [em]
          have HG : Hid (okText s b) := HOK.out fun k hk => by
            have := hI.out.2.2 (s.size - 1 - k) (by omega)
            rwa [show s.size - 1 - (s.size - 1 - k) = k by omega] at this
          have HF : Hid (Own .i64 3 w.heap.size wr B m e (digs s) ∧ Below w.heap.size w wr) := by
            have h1 := hI.out.1
            rw [List.take_of_length_le (by rw [digs_len]; exact Nat.le_refl _)] at h1
            exact ⟨h1, hI.out.2.1⟩
          have C := Lib.hid (fromDigits6_any (b := b) HF.out.1.rd.ints (okDigs_nats (digs_all HG.out.2.2)) rfl hb hb36 (by have := hml.out; omega))
          rw [toN_nats] at C
          clear hI em
          go_wp2_with fail
          refine C.out.mono ?_
          rintro e w3 ⟨A3, n3, c3, rfl, ho3, hb3, hl3⟩
          have HR : Hid (Own .u64 25 w.heap.size w3 A3 n3 c3 (dg W (val b (digs s))) ∧ Below w.heap.size w w3 ∧ n3 ≤ s.size + 1) := ⟨ho3.mono HF.out.2.size, bt HF.out.2 hb3, by have := hml.out; omega⟩
          clear ho3 hb3
          go_wp2
          go_ret2
          exact .inl ⟨HG.out, _, _, _, rfl, HR.out⟩
set_option maxHeartbeats 400000 in
theorem parse6_any {s : ByteArray} {w : World} (hsz : s.size ≤ 1048576) : Calls Tryd.prog 25 #[.string s] w (NumP6 w s 10) := by
  have C := Lib.hid (parseBase6_any (w := w) (b := 10) (b' := 10) (s := s) rfl (by omega) (by omega) hsz)
  go_enter Tryd.func25, Tryd.ntmps25
  go_wp2_with fail
  refine C.out.mono ?_
  rintro e w1 (⟨hg, A, n, c, rfl, ho, hb, hl⟩ | ⟨hg, rfl, hb⟩)
  · have HF := Lib.hid (And.intro hg (And.intro ho hb))
    clear hg ho hb
    go_wp2
    go_ret2
    exact .inl ⟨HF.out.1, _, _, _, rfl, HF.out.2.1, HF.out.2.2, hl⟩
  · have HF := Lib.hid (And.intro hg hb)
    clear hg hb
    go_wp2
    go_ret2
    exact .inr ⟨HF.out.1, rfl, HF.out.2⟩
set_option maxHeartbeats 2000000 in
theorem radixReads_any {s : ByteArray} {w : World} (hs : SG w) (hsz : s.size ≤ 1048576) :
    Calls Tryd.prog 4 #[.string s] w (Keeps (.bool true) w) := by
  have HA := Lib.hid (awake6_any hs)
  have HS := Lib.hid hs
  clear hs
  go_enter Tryd.func4, Tryd.ntmps4
  go_wp2_with fail
  refine (HA.out).mono ?_
  rintro e w1 ⟨rfl, hb1⟩
  go_wp2_with fail
  refine (parse6_any (w := w1) (s := s) hsz).mono ?_
  rintro e wp hp
  rcases hp with ⟨hok, A_p, n_p, c_p, rfl, o_p, hbp, l_p⟩ | ⟨hno, rfl, hbp⟩
  · have HOK := Lib.hid hok
    clear hok
    go_wp2_with fail
    refine (rparse_any (w := wp) (s := s) ((HS.out.below hb1).below hbp) (by omega)).mono ?_
    rintro e wq hq
    rcases hq with ⟨_, A_q, n_q, c_q, rfl, o_q, hbq, l_q⟩ | ⟨hno, _⟩
    rotate_left
    · exact absurd HOK.out hno
    go_wp2_with fail
    refine (rplain_any).mono ?_
    rintro e w' ⟨rfl, rfl⟩
    go_wp2_with fail
    refine (same5_any o_q.rd (o_p.rd.below hbq) rfl (by omega)).mono ?_
    rintro e w3 ⟨rfl, hb3⟩
    have HB2 := Lib.hid (bt (bt (bt hb1 hbp) hbq) hb3)
    go_wp2
    go_ret
    exact ⟨by simp, HB2.out⟩
  · have HNO := Lib.hid hno
    clear hno
    go_wp2_with fail
    refine (rparse_any (w := wp) (s := s) ((HS.out.below hb1).below hbp) (by omega)).mono ?_
    rintro e wq hq
    rcases hq with ⟨hok, _⟩ | ⟨_, rfl, hbq⟩
    · exact absurd hok HNO.out
    go_wp2_with fail
    refine (rplain_any).mono ?_
    rintro e w' ⟨rfl, rfl⟩
    go_wp2_with fail
    refine (same5_any Rd.nil Rd.nil rfl (by omega)).mono ?_
    rintro e w5 ⟨rfl, hb5⟩
    have HB2 := Lib.hid (bt (bt (bt hb1 hbp) hbq) hb5)
    go_wp2
    go_ret
    exact ⟨by simp, HB2.out⟩
end Go.Proofs.YtnmfmdilhepmjaaDoor
