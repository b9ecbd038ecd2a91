/-
  The document's texts (surdref06): ParseBase, Parse. RadixReads. The document's texts (surdref06) at bad bases and digits; surdlaw06.ints. (For RadixBases.) RadixBases.
-/
import Derived.Test.YtajoafcondgelaaGreatDoorRad6X
import Derived.BigQuiet
namespace Go.Proofs.YtajoafcondgelaaGreatDoor
open Go.RowKit
set_option linter.unusedVariables false

/-- what surdref06.ParseBase gives -/
def NumP6 (w : World) (s : ByteArray) (b : Nat) (e : Ending) (w' : World) : Prop :=
  (okText s b ∧ GNE w (val b (digs s)) (s.size + 1) 0 e w') ∨ (¬ okText s b ∧ Keeps (.tuple #[.slice none 0 0, .int .i64 5]) w e w')
set_option maxHeartbeats 2000000 in
set_option maxRecDepth 100000 in
theorem parseBase6_any {s : ByteArray} {b : Nat} {b' : Int} {w : World} (eb : b' = (b : Int)) (hb : 2 ≤ b) (hb36 : b ≤ 36) (hsz : s.size ≤ 1048576) :
    Calls Tryz.prog 38 #[.string s, .int .i64 b'] w (NumP6 w s b) := by
  subst eb
  have HE := Lib.hid elI
  have d1 : decide ((b : Int) < 2) = false := by simp; omega
  have d2 : decide ((36 : Int) < (b : Int)) = false := by simp; omega
  by_cases h0 : s.size = 0
  · have h2 : ((s.size : Int) == 0) = true := by rw [beq_iff_eq]; omega
    have HB : Hid (¬ okText s b) := fun h => absurd h.1 (by omega)
    go_enter Tryz.func38, Tryz.ntmps38
    go_wp2
    go_ret2
    exact .inr ⟨HB.out, rfl, Below.refl _ _⟩
  · have h2 : ((s.size : Int) == 0) = false := by rw [beq_eq_false_iff_ne]; omega
    by_cases h3 : 1 < s.size
    · have d3 : decide ((1 : Int) < (s.size : Int)) = true := by simp; omega
      have h4 := byt_at s 0 (by omega)
      have h5 : 0 < s.size := by omega
      by_cases h6 : byt s 0 = 48
      · have HB : Hid (¬ okText s b) := fun h => h.2.1 ⟨h3, h6⟩
        have q : (((s[0].toNat : Nat) : Int) == 48) = true := by rw [h4, h6]; rfl
        clear h4 h6
        go_enter Tryz.func38, Tryz.ntmps38
        go_wp2
        go_ret2
        exact .inr ⟨HB.out, rfl, Below.refl _ _⟩
      · have HOK : Hid ((∀ k, k < s.size → dgv (byt s k) < b) → okText s b) := fun h => ⟨by omega, fun h7 => h6 h7.2, h⟩
        have q : (((s[0].toNat : Nat) : Int) == 48) = false := by rw [h4, beq_eq_false_iff_ne]; omega
        clear h4 h6
        go_enter Tryz.func38, Tryz.ntmps38
        go_wp2_with fail
        go_loopw [6, 7] (fun dv iv wr => ∃ (k : Nat) (B : Option Addr) (m e : Nat), Hid (Own .i64 3 w.heap.size wr B m e ((digs s).take k) ∧ Below w.heap.size w wr ∧ ∀ j, j < k → dgv (byt s (s.size - 1 - j)) < b) ∧ k ≤ s.size ∧ dv = .slice B m e ∧ iv = .int .i64 ((s.size : Int) - 1 - (k : Int))) (fun _ iv _ => (intOf iv + 1).toNat)
        case atStart => exact ⟨0, none, 0, 0, ⟨Own.nil, Below.refl _ _, fun j hj => by omega⟩, Nat.zero_le _, rfl, by go_num⟩
        case round =>
          obtain ⟨k, B, m, e, hI, hk, rfl, rfl⟩ := hrel
          have hml : Hid (m = k) := by show _ = _; have := hI.out.1.len; rw [List.length_take, digs_len] at this; omega
          by_cases hlt : k < s.size
          · obtain ⟨M, hM⟩ : ∃ M, M = s.size - 1 - k := ⟨_, rfl⟩
            have em : (s.size : Int) - 1 - (k : Int) = (M : Int) := by omega
            rw [em]
            have hM1 : M < s.size := by omega
            have i1 : (0 : Int) ≤ (M : Int) := by omega
            have i2 : (M : Int) < (s.size : Int) := by omega
            have HAT : Hid (s[M].toNat = byt s M) := byt_at s M hM1
            have hbt : byt s M < 256 := by rw [← HAT.out]; exact UInt8.toNat_lt _
            have CV := Lib.hid (value6_any (w := wr) (b := b) (b' := (b : Int)) (c := byt s M) rfl hb36 hbt)
            by_cases hd : dgv (byt s M) < b
            · have HD : Hid (dgI b (byt s M) = ((dgv (byt s M) : Nat) : Int)) := by show _ = _; rw [dgI, if_pos hd]
              rw [HD.out] at CV
              have HT : Hid ((digs s).take (k + 1) = (digs s).take k ++ [dgv (byt s M)]) := by
                show _ = _
                rw [take_nth (by rw [digs_len]; exact hlt), nth_digs hlt, hM]
              have HZ : Hid (∀ j, j < k + 1 → dgv (byt s (s.size - 1 - j)) < b) := fun j hj => by
                by_cases hjk : j = k
                · rw [hjk, ← hM]; exact hd
                · exact hI.out.2.2 j (by omega)
              have q1 : decide ((dgv (byt s M) : Int) < 0) = false := by simp
              have em2 : (M : Int) - 1 = (s.size : Int) - 1 - ((k + 1 : Nat) : Int) := by omega
              have HM := Lib.hid em2
              clear hM hd HD em em2 hbt
              generalize dgv (byt s M) = d at *
              go_wp2_with (first | (at_builtin; (refine wpList_app rfl (.tmp 42) (.tmp 44) rfl HE.out (t := 3) (k := .i64) (B := w.heap.size) (ys := [d]) rfl rfl (hI.out.1.alloc _) (Rd.lit1 wr _) (by have := hml.out; omega) (by have := hI.out.2.1.size; simp; omega) ?_); intro B1 e1 w3 ho3 hb3 _ _) | (go_at_call 68; rw [HAT.out]; refine CV.out.mono ?_; rintro e w' ⟨rfl, rfl⟩))
              go_roundw
              case rel => exact ⟨k + 1, _, _, _, ⟨by rw [HT.out]; exact ho3, (hI.out.2.1.alloc hI.out.2.1.size _).trans hb3, HZ.out⟩, by omega, rfl, by rw [← HM.out]⟩
              case measure => simp [intOf]
            · have HD : Hid (dgI b (byt s M) = -1) := by show _ = _; rw [dgI, if_neg hd]
              rw [HD.out] at CV
              have HB : Hid (¬ okText s b) := fun h => hd (h.2.2 M hM1)
              clear hd HD em hbt hM
              go_wp2_with (go_at_call 68; rw [HAT.out]; refine CV.out.mono ?_; rintro e w' ⟨rfl, rfl⟩)
              go_ret2
              exact .inr ⟨HB.out, rfl, hI.out.2.1⟩
          · obtain rfl : k = s.size := by omega
            have em : (s.size : Int) - 1 - (s.size : Int) = -1 := by omega
            rw [em]
            have HG : Hid (okText s b) := HOK.out fun k hk => by
              have := hI.out.2.2 (s.size - 1 - k) (by omega)
              rwa [show s.size - 1 - (s.size - 1 - k) = k by omega] at this
            have HF : Hid (Own .i64 3 w.heap.size wr B m e (digs s) ∧ Below w.heap.size w wr) := by
              have h1 := hI.out.1
              rw [List.take_of_length_le (by rw [digs_len]; exact Nat.le_refl _)] at h1
              exact ⟨h1, hI.out.2.1⟩
            have C := Lib.hid (fromDigits6_any (b := b) HF.out.1.rd.ints (okDigs_nats (digs_all HG.out.2.2)) rfl hb hb36 (by have := hml.out; omega))
            rw [toN_nats] at C
            clear hI em
            go_wp2_with fail
            refine C.out.mono ?_
            rintro e w3 ⟨A3, n3, c3, rfl, ho3, hb3, hl3⟩
            have HR : Hid (Own .u64 28 w.heap.size w3 A3 n3 c3 (dg W (val b (digs s))) ∧ Below w.heap.size w w3 ∧ n3 ≤ s.size + 1) := ⟨ho3.mono HF.out.2.size, bt HF.out.2 hb3, by have := hml.out; omega⟩
            clear ho3 hb3
            go_wp2
            go_ret2
            exact .inl ⟨HG.out, _, _, _, rfl, HR.out⟩
    · have d3 : decide ((1 : Int) < (s.size : Int)) = false := by simp; omega
      have HOK : Hid ((∀ k, k < s.size → dgv (byt s k) < b) → okText s b) := fun h => ⟨by omega, fun h7 => h3 h7.1, h⟩
      go_enter Tryz.func38, Tryz.ntmps38
      go_wp2_with fail
      go_loopw [6, 7] (fun dv iv wr => ∃ (k : Nat) (B : Option Addr) (m e : Nat), Hid (Own .i64 3 w.heap.size wr B m e ((digs s).take k) ∧ Below w.heap.size w wr ∧ ∀ j, j < k → dgv (byt s (s.size - 1 - j)) < b) ∧ k ≤ s.size ∧ dv = .slice B m e ∧ iv = .int .i64 ((s.size : Int) - 1 - (k : Int))) (fun _ iv _ => (intOf iv + 1).toNat)
      case atStart => exact ⟨0, none, 0, 0, ⟨Own.nil, Below.refl _ _, fun j hj => by omega⟩, Nat.zero_le _, rfl, by go_num⟩
      case round =>
        obtain ⟨k, B, m, e, hI, hk, rfl, rfl⟩ := hrel
        have hml : Hid (m = k) := by show _ = _; have := hI.out.1.len; rw [List.length_take, digs_len] at this; omega
        by_cases hlt : k < s.size
        · obtain ⟨M, hM⟩ : ∃ M, M = s.size - 1 - k := ⟨_, rfl⟩
          have em : (s.size : Int) - 1 - (k : Int) = (M : Int) := by omega
          rw [em]
          have hM1 : M < s.size := by omega
          have i1 : (0 : Int) ≤ (M : Int) := by omega
          have i2 : (M : Int) < (s.size : Int) := by omega
          have HAT : Hid (s[M].toNat = byt s M) := byt_at s M hM1
          have hbt : byt s M < 256 := by rw [← HAT.out]; exact UInt8.toNat_lt _
          have CV := Lib.hid (value6_any (w := wr) (b := b) (b' := (b : Int)) (c := byt s M) rfl hb36 hbt)
          by_cases hd : dgv (byt s M) < b
          · have HD : Hid (dgI b (byt s M) = ((dgv (byt s M) : Nat) : Int)) := by show _ = _; rw [dgI, if_pos hd]
            rw [HD.out] at CV
            have HT : Hid ((digs s).take (k + 1) = (digs s).take k ++ [dgv (byt s M)]) := by
              show _ = _
              rw [take_nth (by rw [digs_len]; exact hlt), nth_digs hlt, hM]
            have HZ : Hid (∀ j, j < k + 1 → dgv (byt s (s.size - 1 - j)) < b) := fun j hj => by
              by_cases hjk : j = k
              · rw [hjk, ← hM]; exact hd
              · exact hI.out.2.2 j (by omega)
            have q1 : decide ((dgv (byt s M) : Int) < 0) = false := by simp
            have em2 : (M : Int) - 1 = (s.size : Int) - 1 - ((k + 1 : Nat) : Int) := by omega
            have HM := Lib.hid em2
            clear hM hd HD em em2 hbt
            generalize dgv (byt s M) = d at *
            go_wp2_with (first | (at_builtin; (refine wpList_app rfl (.tmp 42) (.tmp 44) rfl HE.out (t := 3) (k := .i64) (B := w.heap.size) (ys := [d]) rfl rfl (hI.out.1.alloc _) (Rd.lit1 wr _) (by have := hml.out; omega) (by have := hI.out.2.1.size; simp; omega) ?_); intro B1 e1 w3 ho3 hb3 _ _) | (go_at_call 68; rw [HAT.out]; refine CV.out.mono ?_; rintro e w' ⟨rfl, rfl⟩))
            go_roundw
            case rel => exact ⟨k + 1, _, _, _, ⟨by rw [HT.out]; exact ho3, (hI.out.2.1.alloc hI.out.2.1.size _).trans hb3, HZ.out⟩, by omega, rfl, by rw [← HM.out]⟩
            case measure => simp [intOf]
          · have HD : Hid (dgI b (byt s M) = -1) := by show _ = _; rw [dgI, if_neg hd]
            rw [HD.out] at CV
            have HB : Hid (¬ okText s b) := fun h => hd (h.2.2 M hM1)
            clear hd HD em hbt hM
            go_wp2_with (go_at_call 68; rw [HAT.out]; refine CV.out.mono ?_; rintro e w' ⟨rfl, rfl⟩)
            go_ret2
            exact .inr ⟨HB.out, rfl, hI.out.2.1⟩
        · obtain rfl : k = s.size := by omega
          have em : (s.size : Int) - 1 - (s.size : Int) = -1 := by omega
          rw [em]
          have HG : Hid (okText s b) := HOK.out fun k hk => by
            have := hI.out.2.2 (s.size - 1 - k) (by omega)
            rwa [show s.size - 1 - (s.size - 1 - k) = k by omega] at this
          have HF : Hid (Own .i64 3 w.heap.size wr B m e (digs s) ∧ Below w.heap.size w wr) := by
            have h1 := hI.out.1
            rw [List.take_of_length_le (by rw [digs_len]; exact Nat.le_refl _)] at h1
            exact ⟨h1, hI.out.2.1⟩
          have C := Lib.hid (fromDigits6_any (b := b) HF.out.1.rd.ints (okDigs_nats (digs_all HG.out.2.2)) rfl hb hb36 (by have := hml.out; omega))
          rw [toN_nats] at C
          clear hI em
          go_wp2_with fail
          refine C.out.mono ?_
          rintro e w3 ⟨A3, n3, c3, rfl, ho3, hb3, hl3⟩
          have HR : Hid (Own .u64 28 w.heap.size w3 A3 n3 c3 (dg W (val b (digs s))) ∧ Below w.heap.size w w3 ∧ n3 ≤ s.size + 1) := ⟨ho3.mono HF.out.2.size, bt HF.out.2 hb3, by have := hml.out; omega⟩
          clear ho3 hb3
          go_wp2
          go_ret2
          exact .inl ⟨HG.out, _, _, _, rfl, HR.out⟩
set_option maxHeartbeats 400000 in
theorem parse6_any {s : ByteArray} {w : World} (hsz : s.size ≤ 1048576) : Calls Tryz.prog 18 #[.string s] w (NumP6 w s 10) := by
  have C := Lib.hid (parseBase6_any (w := w) (b := 10) (b' := 10) (s := s) rfl (by omega) (by omega) hsz)
  go_enter Tryz.func18, Tryz.ntmps18
  go_wp2_with fail
  refine C.out.mono ?_
  rintro e w1 (⟨hg, A, n, c, rfl, ho, hb, hl⟩ | ⟨hg, rfl, hb⟩)
  · have HF := Lib.hid (And.intro hg (And.intro ho hb))
    clear hg ho hb
    go_wp2
    go_ret2
    exact .inl ⟨HF.out.1, _, _, _, rfl, HF.out.2.1, HF.out.2.2, hl⟩
  · have HF := Lib.hid (And.intro hg hb)
    clear hg hb
    go_wp2
    go_ret2
    exact .inr ⟨HF.out.1, rfl, HF.out.2⟩
end Go.Proofs.YtajoafcondgelaaGreatDoor
namespace Go.Proofs.YtajoafcondgelaaGreatDoor
open Go.RowKit
set_option linter.unusedVariables false

theorem badBase {b : Int} (h : b < 2 ∨ 36 < b) : (decide (b < 2) = true) ∨ (decide (b < 2) = false ∧ decide (36 < b) = true) := by
  by_cases h1 : b < 2
  · exact .inl (by simp; omega)
  · exact .inr ⟨by simp; omega, by simp; omega⟩
set_option maxHeartbeats 400000 in
theorem digits6_bad {v : Value} {b : Int} {w : World} (h : b < 2 ∨ 36 < b) : Calls Tryz.prog 5 #[v, .int .i64 b] w (Keeps (.tuple #[.slice none 0 0, .int .i64 3]) w) := by
  rcases badBase h with d1 | ⟨d1, d2⟩
  · clear h
    go_enter Tryz.func5, Tryz.ntmps5
    go_wp2
    go_ret2
    exact ⟨rfl, Below.refl _ _⟩
  · clear h
    go_enter Tryz.func5, Tryz.ntmps5
    go_wp2
    go_ret2
    exact ⟨rfl, Below.refl _ _⟩
set_option maxHeartbeats 400000 in
theorem parseBase6_bad {v : Value} {b : Int} {w : World} (h : b < 2 ∨ 36 < b) : Calls Tryz.prog 38 #[v, .int .i64 b] w (Keeps (.tuple #[.slice none 0 0, .int .i64 3]) w) := by
  rcases badBase h with d1 | ⟨d1, d2⟩
  · clear h
    go_enter Tryz.func38, Tryz.ntmps38
    go_wp2
    go_ret2
    exact ⟨rfl, Below.refl _ _⟩
  · clear h
    go_enter Tryz.func38, Tryz.ntmps38
    go_wp2
    go_ret2
    exact ⟨rfl, Below.refl _ _⟩
set_option maxHeartbeats 400000 in
theorem fromDigits6_bad {v : Value} {b : Int} {w : World} (h : b < 2 ∨ 36 < b) : Calls Tryz.prog 6 #[v, .int .i64 b] w (Keeps (.tuple #[.slice none 0 0, .int .i64 3]) w) := by
  rcases badBase h with d1 | ⟨d1, d2⟩
  · clear h
    go_enter Tryz.func6, Tryz.ntmps6
    go_wp2
    go_ret2
    exact ⟨rfl, Below.refl _ _⟩
  · clear h
    go_enter Tryz.func6, Tryz.ntmps6
    go_wp2
    go_ret2
    exact ⟨rfl, Below.refl _ _⟩
set_option maxHeartbeats 400000 in
theorem rdigits_bad {v : Value} {b : Int} {w : World} (h : b < 2 ∨ 36 < b) : Calls Tryz.prog 8 #[v, .int .i64 b] w (Keeps (.tuple #[.slice none 0 0, .int .i64 3]) w) := by
  have CB := Lib.hid (isBase_no (b := b) (w := w) h)
  clear h
  go_enter Tryz.func8, Tryz.ntmps8
  go_wp2_with fail
  refine (CB.out).mono ?_
  rintro e w' ⟨rfl, rfl⟩
  go_wp2
  go_ret2
  exact ⟨rfl, Below.refl _ _⟩
set_option maxHeartbeats 1000000 in
theorem fromDigits6_out {A : Option Addr} {n c b : Nat} {b' : Int} {zs : List Int} {w : World} (h : Rdz w A n c zs) (hno : ¬ okDigs zs b) (eb : b' = (b : Int)) (hb : 2 ≤ b) (hb36 : b ≤ 36) (hn : n ≤ 1073741824) :
    Calls Tryz.prog 6 #[.slice A n c, .int .i64 b'] w (Keeps (.tuple #[.slice none 0 0, .int .i64 3]) w) := by
  subst eb
  have H := Lib.hid h
  have HNO := Lib.hid hno
  have hln := Lib.hid h.1.1
  have d1 : decide ((b : Int) < 2) = false := by simp; omega
  have d2 : decide ((36 : Int) < (b : Int)) = false := by simp; omega
  clear h hno
  go_enter Tryz.func6, Tryz.ntmps6
  go_wp2
  go_loop [6] (fun iv => ∃ k : Nat, Hid (∀ j, j < k → 0 ≤ zth zs j ∧ zth zs j < (b : Int)) ∧ k ≤ n ∧ iv = .int .i64 (k : Int)) (fun iv => n - (intOf iv).toNat)
  case atStart => exact ⟨0, fun j hj => by omega, Nat.zero_le _, rfl⟩
  case round =>
    obtain ⟨k, hZ, hk, rfl⟩ := hrel
    by_cases hlt : k < n
    · obtain ⟨bb, off, ea, hbb, hca⟩ := H.out.2 (by omega)
      subst ea
      have hcb := hca k hlt
      clear hca
      have i1 : (0 : Int) ≤ (k : Int) := by omega
      have i2 : (k : Int) < (n : Int) := by omega
      by_cases z1 : zth zs k < 0
      · have q1 : decide (zth zs k < 0) = true := by simp; omega
        generalize zth zs k = z at *
        go_wp2
        go_ret2
        exact ⟨rfl, Below.refl _ _⟩
      · have q1 : decide (zth zs k < 0) = false := by simp; omega
        by_cases z2 : (b : Int) ≤ zth zs k
        · have q2 : decide ((b : Int) ≤ zth zs k) = true := by simp; omega
          generalize zth zs k = z at *
          go_wp2
          go_ret2
          exact ⟨rfl, Below.refl _ _⟩
        · have q2 : decide ((b : Int) ≤ zth zs k) = false := by simp; omega
          have HZ : Hid (∀ j, j < k + 1 → 0 ≤ zth zs j ∧ zth zs j < (b : Int)) := fun j hj => by
            by_cases hjk : j = k
            · rw [hjk]; omega
            · exact hZ.out j (by omega)
          generalize zth zs k = z at *
          go_wp2
          go_round
          case rel => exact ⟨k + 1, HZ, by omega, by go_num⟩
          case measure => simp [intOf]; omega
    · obtain rfl : k = n := by omega
      exact absurd (fun i hi => hZ.out i (by rw [hln.out] at hi; exact hi)) HNO.out
set_option maxHeartbeats 1000000 in
/-- the same numbers -/
theorem ints_yes {A A2 : Option Addr} {n c m c2 : Nat} {xs ys : List Nat} {w : World} (h : Rd .i64 w A n c xs) (h' : Rd .i64 w A2 m c2 ys) (e : xs = ys) (hn : n ≤ 1099511627776) :
    Calls Tryz.prog 16 #[.slice A n c, .slice A2 m c2] w (Keeps (.bool true) w) := by
  subst e
  obtain rfl : n = m := by rw [← h.len, ← h'.len]
  have H := Lib.hid h
  have H' := Lib.hid h'
  clear h h'
  go_enter Tryz.func16, Tryz.ntmps16
  go_wp2
  go_loopw [13] (fun iv wr => ∃ k q : Nat, Hid (wr = w.drewN q) ∧ k ≤ n ∧ iv = .int .i64 (k : Int)) (fun iv _ => n - (intOf iv).toNat)
  case atStart => exact ⟨0, 0, rfl, Nat.zero_le _, rfl⟩
  case round =>
    obtain ⟨k, q, hQ, hk, rfl⟩ := hrel
    have hq := hQ.out
    subst hq
    by_cases hlt : k < n
    · obtain ⟨bb, off, ea, hbb, hca⟩ := H.out.at hlt
      obtain ⟨b2, off2, ea2, hb2, hc2⟩ := H'.out.at hlt
      subst ea ea2
      have i1 : (0 : Int) ≤ (k : Int) := by omega
      have i2 : (k : Int) < (n : Int) := by omega
      generalize nth xs k = d at *
      go_wp2_with fail
      go_quiet (fail)
      go_wp2
      go_roundw
      case rel => exact ⟨k + 1, q + nq, rfl, by omega, by go_num⟩
      case measure => simp [intOf]; omega
    · obtain rfl : k = n := by omega
      go_wp2
      go_ret
      exact ⟨rfl, below_drewN _ _⟩
/-- new digits and an error's number -/
def GDzE (w : World) (xs : List Nat) (er : Int) (e : Ending) (w' : World) : Prop :=
  ∃ A n c, e = .returned (.tuple #[.slice A n c, .int .i64 er]) ∧ Own .i64 3 w.heap.size w' A n c xs ∧ Below w.heap.size w w'
theorem nil_gne {w : World} {L : Nat} {er : Int} {e : Ending} {w' : World} (h : Keeps (.tuple #[.slice none 0 0, .int .i64 er]) w e w') : GNE w 0 L er e w' :=
  ⟨none, 0, 0, h.1, by rw [dg_zero W_gt]; exact Own.nil, h.2, Nat.zero_le _⟩
theorem nil_gde {w : World} {er : Int} {e : Ending} {w' : World} (h : Keeps (.tuple #[.slice none 0 0, .int .i64 er]) w e w') : GDzE w [] er e w' :=
  ⟨none, 0, 0, h.1, Own.nil, h.2⟩
theorem goodBase {b : Int} (h : ¬ (b < 2 ∨ 36 < b)) : ∃ bn : Nat, b = (bn : Int) ∧ 2 ≤ bn ∧ bn ≤ 36 := ⟨b.toNat, by omega, by omega, by omega⟩
theorem dg_both {x L : Nat} {b : Int} (hL1 : 1 ≤ L) (hL : L ≤ 1048576) (hx : x < W ^ L) : ∃ (xs : List Nat) (er : Int), xs.length ≤ 67108864 ∧
    (∀ ⦃v : Value⦄ ⦃w : World⦄, Num w v x L → Calls Tryz.prog 5 #[v, .int .i64 b] w (GDzE w xs er)) ∧
    (∀ ⦃v : Value⦄ ⦃w : World⦄, Num w v x L → Calls Tryz.prog 8 #[v, .int .i64 b] w (GDzE w xs er)) := by
  by_cases h : b < 2 ∨ 36 < b
  · exact ⟨[], 3, by simp, fun v w _ => (digits6_bad h).mono fun e w' hp => nil_gde hp, fun v w _ => (rdigits_bad h).mono fun e w' hp => nil_gde hp⟩
  · obtain ⟨bn, rfl, h1, h2⟩ := goodBase h
    exact ⟨dg bn x, 0, by have := dg_len64 (b := bn) (by omega) hx; omega, fun v w hn => digits6_any hn rfl h1 h2 hL1 (by omega), fun v w hn => rdigits_any hn rfl h1 h2 (by omega)⟩
theorem fd_both {zs : List Int} {n : Nat} {b : Int} (hn : n ≤ 1048576) (hl : zs.length = n) : ∃ (X : Nat) (er : Int),
    (∀ ⦃A : Option Addr⦄ ⦃c : Nat⦄ ⦃w : World⦄, Rdz w A n c zs → Calls Tryz.prog 6 #[.slice A n c, .int .i64 b] w (GNE w X (n + 1) er)) ∧
    (∀ ⦃A : Option Addr⦄ ⦃c : Nat⦄ ⦃w : World⦄, Rdz w A n c zs → Calls Tryz.prog 9 #[.slice A n c, .int .i64 b] w (GNE w X (n + 1) er)) := by
  by_cases h : b < 2 ∨ 36 < b
  · exact ⟨0, 3, fun A c w _ => (fromDigits6_bad h).mono fun e w' hp => nil_gne hp, fun A c w _ => (rfromDigits_bad h).mono fun e w' hp => nil_gne hp⟩
  · obtain ⟨bn, rfl, h1, h2⟩ := goodBase h
    by_cases hok : okDigs zs bn
    · refine ⟨val bn (toN zs), 0, fun A c w hr => fromDigits6_any hr hok rfl h1 h2 (by omega), fun A c w hr => (rfromDigits_any hr rfl h1 h2 (by omega)).mono fun e w' hp => ?_⟩
      rcases hp with ⟨_, B, m, d, h3, h4, h5, h6⟩ | ⟨hno, _⟩
      · exact ⟨B, m, d, h3, h4, h5, by omega⟩
      · exact absurd hok hno
    · refine ⟨0, 3, fun A c w hr => (fromDigits6_out hr hok rfl h1 h2 (by omega)).mono fun e w' hp => nil_gne hp, fun A c w hr => (rfromDigits_any hr rfl h1 h2 (by omega)).mono fun e w' hp => ?_⟩
      rcases hp with ⟨h3, _⟩ | ⟨_, hp⟩
      · exact absurd h3 hok
      · exact nil_gne hp
end Go.Proofs.YtajoafcondgelaaGreatDoor
namespace Go.Proofs.YtajoafcondgelaaGreatDoor
open Go.RowKit
set_option linter.unusedVariables false
end Go.Proofs.YtajoafcondgelaaGreatDoor
