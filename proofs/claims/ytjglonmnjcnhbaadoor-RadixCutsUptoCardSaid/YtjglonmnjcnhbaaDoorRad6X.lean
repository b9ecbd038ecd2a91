/-
  The document's texts (surdref06): value, FromDigits. The document's texts (surdref06): letter, Digits, FormatBase, Format. The document's texts (surdref06): FormatBase, Format; Ten; surdref05.Pow; radix.Length, Ten. RadixTens.
-/
import Derived.Test.YtjglonmnjcnhbaaDoorRadG
import Derived.Test.YtjglonmnjcnhbaaDoorRef5X
import Derived.Test.YtjglonmnjcnhbaaDoorPowX
import Derived.Maps.AppendAt
namespace Go.Proofs.YtjglonmnjcnhbaaDoor
open Go.RowKit
set_option linter.unusedVariables false
theorem val_drop_step {b : Nat} {xs : List Nat} {k : Nat} (h : k < xs.length) : val b (xs.drop k) = val b (xs.drop (k + 1)) * b + nth xs k := by
  rw [List.drop_eq_getElem_cons h, val, nth_lt h, Nat.mul_comm]
  omega
end Go.Proofs.YtjglonmnjcnhbaaDoor
namespace Go.Proofs.YtjglonmnjcnhbaaDoor
open Go.RowKit
set_option linter.unusedVariables false

theorem letter6_any {d : Nat} {d' : Int} {w : World} (ed : d' = (d : Int)) (hd : d < 36) : Calls Tryd.prog 34 #[.int .i64 d'] w fun e w' => e = .returned (.int .u8 ((sgn d : Nat) : Int)) ∧ w = w' := by
  subst ed
  by_cases h : d < 10
  · have d1 : decide ((d : Int) < 10) = true := by simp; omega
    have HS : Hid (((sgn d : Nat) : Int) = 48 + (d : Int)) := by show _ = _; unfold sgn; rw [if_pos h]; omega
    go_enter Tryd.func34, Tryd.ntmps34
    go_wp2
    go_ret
    exact ⟨by rw [HS.out]; rfl, rfl⟩
  · have d1 : decide ((d : Int) < 10) = false := by simp; omega
    have HS : Hid (((sgn d : Nat) : Int) = 97 + (d : Int) - 10) := by show _ = _; unfold sgn; rw [if_neg h]; omega
    go_enter Tryd.func34, Tryd.ntmps34
    go_wp2
    go_ret
    exact ⟨by rw [HS.out]; rfl, rfl⟩
/-- the greatest power of the base below 65536 is sought: k of them -/
theorem wds_split {b k x : Nat} : wds b k x = wds b k (x % b ^ k) := by
  induction k generalizing x with
  | zero => rfl
  | succ k ih =>
    rw [wds, wds, ih, ih (x := x % b ^ (k + 1) / b)]
    have h1 : x % b ^ (k + 1) % b = x % b := by rw [Nat.pow_succ, Nat.mul_comm]; exact Nat.mod_mul_right_mod x b (b ^ k)
    have h2 : x % b ^ (k + 1) / b = x / b % b ^ k := by rw [Nat.pow_succ, Nat.mul_comm]; exact Nat.mod_mul_right_div_self x b (b ^ k)
    rw [h1, h2, Nat.mod_mod]
theorem wds_add {b k j x : Nat} : wds b (k + j) x = wds b k x ++ wds b j (x / b ^ k) := by
  induction k generalizing x with
  | zero => simp [wds]
  | succ k ih =>
    rw [show k + 1 + j = k + j + 1 by omega, wds, wds, ih, List.cons_append, Nat.div_div_eq_div_mul, Nat.pow_succ, Nat.mul_comm b]
/-- an own slice beside one of another type that has grown -/
theorem Own.besides {k : IntKind} {t T : TypeId} {B n c m s : Nat} {A : Option Addr} {xs : List Nat} {vs : List Value} {v : Value} {w w' : World} (ho : Own k t B w A n c xs) (hr : w.ownsRow B T s v m vs) (hne : t ≠ T) (hg : w.grownBy w' v.ownBlock) : Own k t B w' A n c xs := by
  refine World.ownsRow.kept ho hg ?_
  rcases ho.2 with ⟨h1, _⟩ | ⟨g, cap, cur, h1, _, hgb, _⟩
  · injection h1 with h1 _ _
    subst h1
    exact .inl rfl
  · injection h1 with h1 _ _
    subst h1
    refine .inr fun e => ?_
    rcases hr.2 with ⟨h2, _⟩ | ⟨g2, cap2, cur2, h2, _, hgb2, _⟩
    · rw [h2] at e; cases e
    · rw [h2] at e
      simp only [Value.ownBlock] at e
      injection e with e
      subst e
      rw [hgb] at hgb2
      injection hgb2 with hgb2
      injection hgb2 with _ e2 _
      exact hne e2
def Dg6I (w0 : World) (b x k j L : Nat) (wr : World) (A : Option Addr) (n c : Nat) (B : Option Addr) (m e : Nat) : Prop :=
  Own .u64 27 w0.heap.size wr A n c (dg W (x / b ^ (k * j))) ∧ Own .i64 3 w0.heap.size wr B m e (wds b (k * j) x) ∧ Below w0.heap.size w0 wr ∧ n ≤ L
theorem few_digits {b x k j L : Nat} (hb : 2 ≤ b) (h : x / b ^ (k * j) ≠ 0) (hx : x < W ^ L) : k * j < 64 * L := by
  have h1 : b ^ (k * j) ≤ x := by
    rcases Nat.lt_or_ge x (b ^ (k * j)) with h2 | h2
    · exact absurd (Nat.div_eq_of_lt h2) h
    · exact h2
  have h2 : 2 ^ (k * j) ≤ b ^ (k * j) := Nat.pow_le_pow_left hb _
  have h3 : W ^ L = 2 ^ (64 * L) := by rw [show W = 2 ^ 64 from rfl, ← Nat.pow_mul]
  rw [h3] at hx
  exact (Nat.pow_lt_pow_iff_right (by omega)).1 (Nat.lt_of_le_of_lt (Nat.le_trans h2 h1) hx)
set_option maxHeartbeats 4000000 in
set_option maxRecDepth 100000 in
theorem digits6_any {v : Value} {x L b : Nat} {b' : Int} {w : World} (h : Num w v x L) (eb : b' = (b : Int)) (hb : 2 ≤ b) (hb36 : b ≤ 36) (hL1 : 1 ≤ L) (hL : L ≤ 16777216) :
    Calls Tryd.prog 100 #[v, .int .i64 b'] w (GDI w b x) := by
  subst eb
  obtain ⟨_, _, _, _, rfl, _⟩ := id h
  have H := Lib.hid h
  have HX := Lib.hid h.lt
  have HE := Lib.hid elI
  have d1 : decide ((b : Int) < 2) = false := by simp; omega
  have d2 : decide ((36 : Int) < (b : Int)) = false := by simp; omega
  clear h
  go_enter Tryd.func100, Tryd.ntmps100
  go_wp2
  go_loop [6, 7] (fun kv pv => ∃ k P : Nat, Hid (P = b ^ k) ∧ 1 ≤ k ∧ k ≤ P ∧ P < 65536 ∧ kv = .int .i64 (k : Int) ∧ pv = .int .i64 (P : Int)) (fun _ pv => 65536 - (intOf pv).toNat)
  case atStart => exact ⟨1, b, (by show b = b ^ 1; rw [Nat.pow_one]), by omega, by omega, by omega, rfl, rfl⟩
  case round =>
    obtain ⟨k, P, hP, hk1, hkP, hPl, rfl, rfl⟩ := hrel
    obtain ⟨Q, hQ⟩ : ∃ Q, Q = P * b := ⟨_, rfl⟩
    have eQ : (P : Int) * (b : Int) = (Q : Int) := by rw [hQ, Int.natCast_mul]
    have hQ2 : 2 * P ≤ Q := by rw [hQ, Nat.mul_comm]; exact Nat.mul_le_mul_left _ hb
    have hQ3 : Q ≤ P * 36 := by rw [hQ]; exact Nat.mul_le_mul_left _ hb36
    have HQ := Lib.hid hQ
    clear hQ
    by_cases hlt : Q < 65536
    · have d3 : decide ((Q : Int) < 65536) = true := by simp; omega
      go_wp2
      go_round
      case rel => exact ⟨k + 1, Q, (by show Q = b ^ (k + 1); rw [HQ.out, hP.out, Nat.pow_succ]), by omega, by omega, hlt, by go_num, rfl⟩
      case measure => simp [intOf]; omega
    · have d3 : decide ((Q : Int) < 65536) = false := by simp; omega
      go_wp2_with fail
      refine (norm5_any H.out (by omega)).mono ?_
      rintro e w1 ⟨A_nn, n_nn, c_nn, rfl, o_nn, hb1, l_nn⟩
      have HNN := Lib.hid (And.intro o_nn (And.intro hb1 l_nn))
      clear o_nn hb1
      go_wp2
      obtain ⟨wn, hwn⟩ : ∃ wn : World, wn = w1 := ⟨_, rfl⟩
      go_loopw [0, 8] (fun nv dv wr => ∃ (j n c m e : Nat) (A B : Option Addr), Hid (Dg6I w b x k j L wr A n c B m e) ∧ nv = .slice A n c ∧ dv = .slice B m e) (fun nv _ wr => mval wr nv)
      case atStart => exact ⟨0, _, _, 0, 0, _, none, ⟨by simpa using HNN.out.1, Own.nil, HNN.out.2.1, HNN.out.2.2⟩, rfl, rfl⟩
      case round =>
        obtain ⟨j, n, c, m, e, A, B, hI, rfl, rfl⟩ := hrel
        obtain ⟨wo, rfl⟩ : ∃ wo : World, wo = wr := ⟨_, rfl⟩
        have hnL := hI.out.2.2.2
        have hmk : m = k * j := by have := hI.out.2.1.len; rw [wds_length] at this; exact this.symm
        have HMK := Lib.hid hmk
        by_cases h0 : x / b ^ (k * j) = 0
        · obtain rfl : n = 0 := len_zero hI.out.1 h0
          have HFI : Hid (Own .i64 3 w.heap.size wo B m e (wds b (k * j) x) ∧ Below w.heap.size w wo ∧ strip (wds b (k * j) x) = dg b x) := by
            refine ⟨hI.out.2.1, hI.out.2.2.1, ?_⟩
            rw [strip_eq_dg (by omega) (wds_all (by omega) _ _), val_wds, Nat.mod_eq_of_lt]
            rcases Nat.lt_or_ge x (b ^ (k * j)) with h1 | h1
            · exact h1
            · have := Nat.div_pos h1 (Nat.pow_pos (by omega))
              omega
          have hmx : m ≤ maxLen := Nat.le_trans hI.out.2.1.cap.1 hI.out.2.1.cap.2
          unfold maxLen at hmx
          clear hI h0 hmk
          obtain ⟨ws, hws⟩ : ∃ ws, ws = wds b (k * j) x := ⟨_, rfl⟩
          rw [← hws] at HFI
          clear hws
          go_wp2
          go_loop [8] (fun dv => ∃ q : Nat, Hid (∀ t, q ≤ t → nth ws t = 0) ∧ q ≤ m ∧ dv = .slice B q e) (fun d => match d with | .slice _ q _ => q | _ => 0)
          case atStart => exact ⟨m, fun t ht => nth_ge (by rw [HFI.out.1.len]; exact ht), Nat.le_refl _, rfl⟩
          case round =>
            obtain ⟨q, hZ, hq, rfl⟩ := hrel
            have FIN : Hid ((q = 0 ∨ nth ws (q - 1) ≠ 0) → GDI w b x (.returned (.tuple #[.slice B q e, .int .i64 0])) wo) := fun ht => by
              have e1 := strip_of_top (xs := ws) (m := q) (by rw [HFI.out.1.len]; exact hq) hZ.out ht
              rw [HFI.out.2.2] at e1
              exact ⟨B, q, e, rfl, by rw [e1]; exact HFI.out.1.upto hq, HFI.out.2.1⟩
            by_cases h0 : q = 0
            · subst h0
              go_wp2
              go_ret2
              exact FIN.out (by simp)
            · obtain ⟨p, rfl⟩ : ∃ p, q = p + 1 := ⟨q - 1, by omega⟩
              obtain ⟨b1, off1, ea, _, hcd⟩ := HFI.out.1.rd.at (i := p) (by omega)
              subst ea
              have hcp := HFI.out.1.cap
              have i1 : p + 1 ≤ e := by omega
              clear hcp
              by_cases hz : nth ws p = 0
              · have q0 : (((nth ws p : Nat) : Int) == 0) = true := by rw [hz]; rfl
                have HZ : Hid (∀ t, p ≤ t → nth ws t = 0) := fun t ht => by
                  by_cases hjm : t = p
                  · rw [hjm]; exact hz
                  · exact hZ.out t (by omega)
                clear hz
                generalize nth ws p = d at *
                go_wp2
                go_round
                case rel => exact ⟨p, HZ, by omega, rfl⟩
                case measure => simp
              · have q0 : (((nth ws p : Nat) : Int) == 0) = false := by rw [beq_eq_false_iff_ne]; omega
                have HF2 := Lib.hid (FIN.out (.inr hz))
                clear hz
                generalize nth ws p = d at *
                go_wp2
                go_ret2
                exact HF2.out
        · have hn0 : 0 < n := len_pos hI.out.1 (Nat.pos_of_ne_zero h0)
          have d4 : decide ((0 : Int) < (n : Int)) = true := by simp; exact hn0
          have HMV : Hid (mval wo (.slice A n c) = x / b ^ (k * j)) := mval_num (hI.out.1.num hnL)
          have hkj := few_digits hb h0 HX.out
          have HN0 := Lib.hid (Nat.pos_of_ne_zero h0)
          clear h0 hmk
          go_wp2_with fail
          refine (word5_any (x := P) rfl hPl).mono ?_
          rintro e w1 ⟨A_pw, n_pw, c_pw, rfl, o_pw, hb1, l_pw⟩
          go_wp2_with fail
          refine (quo5_any ((hI.out.1.num hnL).below hb1) (o_pw.num l_pw) (by omega) (by omega) (by omega) hL1 (by omega)).mono ?_
          rintro e w2 ⟨A_qq, n_qq, c_qq, A_rr, n_rr, c_rr, rfl, o_qq, o_rr, hb2, l_qq, l_rr⟩
          have HS : Hid (Own .u64 27 wo.heap.size w2 A_qq n_qq c_qq (dg W (x / b ^ (k * j) / P)) ∧ Below wo.heap.size wo w2) := ⟨(o_qq.mono hb1.size), (bt hb1 hb2)⟩
          obtain ⟨V, hV⟩ : ∃ V, V = x / b ^ (k * j) % P := ⟨_, rfl⟩
          rw [← hV] at o_rr
          have HV := Lib.hid hV
          have hVP : V < P := by rw [hV]; exact Nat.mod_lt _ (by omega)
          clear hV
          by_cases hv0 : V = 0
          · obtain rfl : n_rr = 0 := len_zero o_rr hv0
            have HV0 := Lib.hid hv0
            clear hv0 o_qq o_rr hb1 hb2
            go_wp2
            go_loopw [8, 11, 12] (fun dv vv iv wx => ∃ (i m2 e2 : Nat) (B2 : Option Addr), Hid (Own .i64 3 w.heap.size wx B2 m2 e2 (wds b (k * j) x ++ wds b i V) ∧ Own .u64 27 w.heap.size wx A_qq n_qq c_qq (dg W (x / b ^ (k * j) / P)) ∧ Below w.heap.size w wx) ∧ i ≤ k ∧ dv = .slice B2 m2 e2 ∧ vv = .int .i64 ((V / b ^ i : Nat) : Int) ∧ iv = .int .i64 (i : Int)) (fun _ _ iv _ => k - (intOf iv).toNat)
            case atStart => exact ⟨0, m, e, B, ⟨by rw [wds, List.append_nil]; exact hI.out.2.1.below HS.out.2, HS.out.1.mono hI.out.2.2.1.size, bt hI.out.2.2.1 HS.out.2⟩, Nat.zero_le _, rfl, (by rw [HV0.out]; simp), rfl⟩
            case round =>
              obtain ⟨i, m2, e2, B2, hJ, hik, rfl, rfl, rfl⟩ := hrel
              obtain ⟨wx, rfl⟩ : ∃ wx : World, wx = wr := ⟨_, rfl⟩
              by_cases hlt2 : i < k
              · have d5 : decide ((i : Int) < (k : Int)) = true := by simp; exact hlt2
                have hm2 : Hid (m2 = k * j + i) := by
                  show _ = _
                  have := hJ.out.1.len
                  rw [List.length_append, wds_length, wds_length] at this
                  exact this.symm
                obtain ⟨U, hU⟩ : ∃ U, U = V / b ^ i := ⟨_, rfl⟩
                obtain ⟨r, hr⟩ : ∃ r, r = U % b := ⟨_, rfl⟩
                obtain ⟨U2, hU2⟩ : ∃ U2, U2 = U / b := ⟨_, rfl⟩
                have eR : (U : Int) % (b : Int) = (r : Int) := by rw [hr, Int.natCast_emod]
                have eD : (U : Int) / (b : Int) = (U2 : Int) := by rw [hU2, Int.natCast_ediv]
                have hUV : U ≤ V := by rw [hU]; exact Nat.div_le_self _ _
                have hrb : r < b := by rw [hr]; exact Nat.mod_lt _ (by omega)
                have hU2U : U2 ≤ U := by rw [hU2]; exact Nat.div_le_self _ _
                have nz1 : ((b : Int) == 0) = false := by rw [beq_eq_false_iff_ne]; omega
                have nz2 : (b : Int) ≠ 0 := by omega
                have nz3 : ¬ b = 0 := by omega
                have HW : Hid (wds b (k * j) x ++ wds b (i + 1) V = (wds b (k * j) x ++ wds b i V) ++ [r]) := by
                  show _ = _
                  rw [wds_snoc, List.append_assoc, hr, hU]
                have HU3 : Hid (U2 = V / b ^ (i + 1)) := by show _ = _; rw [hU2, hU, Nat.div_div_eq_div_mul, Nat.pow_succ]
                rw [← hU]
                clear hU hr hU2
                go_wp2_with (at_builtin; (refine wpList_app rfl (.tmp 53) (.tmp 57) rfl HE.out (t := 3) (k := .i64) (B := w.heap.size) (ys := [r]) rfl rfl (hJ.out.1.alloc _) (Rd.lit1 wx r) (by have := hm2.out; omega) (by have := hJ.out.2.2.size; simp; omega) ?_); intro B3 e3 w3 ho3 hb3 hg3 _)
                have HNX : Hid (Own .i64 3 w.heap.size w3 B3 (m2 + 1) e3 (wds b (k * j) x ++ wds b (i + 1) V) ∧ Own .u64 27 w.heap.size w3 A_qq n_qq c_qq (dg W (x / b ^ (k * j) / P)) ∧ Below w.heap.size w w3) :=
                  ⟨by rw [HW.out]; exact ho3, (hJ.out.2.1.alloc _).besides (hJ.out.1.alloc _) (by decide) hg3, (hJ.out.2.2.alloc hJ.out.2.2.size _).trans hb3⟩
                clear ho3 hb3 hg3
                go_roundw
                case rel => exact ⟨i + 1, _, _, _, HNX, hlt2, rfl, by rw [HU3.out], by go_num⟩
                case measure => simp [intOf]; omega
              · have d5 : decide ((i : Int) < (k : Int)) = false := by simp; omega
                obtain rfl : i = k := by omega
                have HEQ : Hid (x / b ^ (i * j) / P = x / b ^ (i * (j + 1)) ∧ wds b (i * j) x ++ wds b i V = wds b (i * (j + 1)) x) := by
                  refine ⟨?_, ?_⟩
                  · rw [hP.out, Nat.div_div_eq_div_mul, ← Nat.pow_add, Nat.mul_succ]
                  · rw [Nat.mul_succ, wds_add, HV.out, hP.out, ← wds_split]
                have HRL : Hid (Dg6I w b x i (j + 1) L wx A_qq n_qq c_qq B2 m2 e2 ∧ mval wx (.slice A_qq n_qq c_qq) = x / b ^ (i * j) / P) := by
                  obtain ⟨t1, t2, t3⟩ := hJ.out
                  have t4 := mval_num (t2.num l_qq)
                  rw [HEQ.out.1] at t2
                  rw [HEQ.out.2] at t1
                  exact ⟨⟨t2, t1, t3, l_qq⟩, t4⟩
                have HLT : Hid (x / b ^ (i * j) / P < x / b ^ (i * j)) := Nat.div_lt_self HN0.out (by omega)
                go_wp2
                go_roundw
                case rel => exact ⟨j + 1, _, _, _, _, _, _, HRL.out.1, rfl, rfl⟩
                case measure => rw [HRL.out.2, HMV.out]; exact HLT.out
          · have hn1 : n_rr = 1 := by
              have := len_pos o_rr (Nat.pos_of_ne_zero hv0)
              omega
            subst hn1
            obtain ⟨e1, _⟩ := dg_one (y := V) (by rw [o_rr.len])
            obtain ⟨b3, off3, ea3, _, hc3⟩ := o_rr.rd.at (i := 0) (by omega)
            subst ea3
            rw [e1, Nat.add_zero] at hc3
            clear hv0 o_qq o_rr hb1 hb2 e1
            go_wp2
            go_loopw [8, 11, 12] (fun dv vv iv wx => ∃ (i m2 e2 : Nat) (B2 : Option Addr), Hid (Own .i64 3 w.heap.size wx B2 m2 e2 (wds b (k * j) x ++ wds b i V) ∧ Own .u64 27 w.heap.size wx A_qq n_qq c_qq (dg W (x / b ^ (k * j) / P)) ∧ Below w.heap.size w wx) ∧ i ≤ k ∧ dv = .slice B2 m2 e2 ∧ vv = .int .i64 ((V / b ^ i : Nat) : Int) ∧ iv = .int .i64 (i : Int)) (fun _ _ iv _ => k - (intOf iv).toNat)
            case atStart => exact ⟨0, m, e, B, ⟨by rw [wds, List.append_nil]; exact hI.out.2.1.below HS.out.2, HS.out.1.mono hI.out.2.2.1.size, bt hI.out.2.2.1 HS.out.2⟩, Nat.zero_le _, rfl, (by simp), rfl⟩
            case round =>
              obtain ⟨i, m2, e2, B2, hJ, hik, rfl, rfl, rfl⟩ := hrel
              obtain ⟨wx, rfl⟩ : ∃ wx : World, wx = wr := ⟨_, rfl⟩
              by_cases hlt2 : i < k
              · have d5 : decide ((i : Int) < (k : Int)) = true := by simp; exact hlt2
                have hm2 : Hid (m2 = k * j + i) := by
                  show _ = _
                  have := hJ.out.1.len
                  rw [List.length_append, wds_length, wds_length] at this
                  exact this.symm
                obtain ⟨U, hU⟩ : ∃ U, U = V / b ^ i := ⟨_, rfl⟩
                obtain ⟨r, hr⟩ : ∃ r, r = U % b := ⟨_, rfl⟩
                obtain ⟨U2, hU2⟩ : ∃ U2, U2 = U / b := ⟨_, rfl⟩
                have eR : (U : Int) % (b : Int) = (r : Int) := by rw [hr, Int.natCast_emod]
                have eD : (U : Int) / (b : Int) = (U2 : Int) := by rw [hU2, Int.natCast_ediv]
                have hUV : U ≤ V := by rw [hU]; exact Nat.div_le_self _ _
                have hrb : r < b := by rw [hr]; exact Nat.mod_lt _ (by omega)
                have hU2U : U2 ≤ U := by rw [hU2]; exact Nat.div_le_self _ _
                have nz1 : ((b : Int) == 0) = false := by rw [beq_eq_false_iff_ne]; omega
                have nz2 : (b : Int) ≠ 0 := by omega
                have nz3 : ¬ b = 0 := by omega
                have HW : Hid (wds b (k * j) x ++ wds b (i + 1) V = (wds b (k * j) x ++ wds b i V) ++ [r]) := by
                  show _ = _
                  rw [wds_snoc, List.append_assoc, hr, hU]
                have HU3 : Hid (U2 = V / b ^ (i + 1)) := by show _ = _; rw [hU2, hU, Nat.div_div_eq_div_mul, Nat.pow_succ]
                rw [← hU]
                clear hU hr hU2
                go_wp2_with (at_builtin; (refine wpList_app rfl (.tmp 53) (.tmp 57) rfl HE.out (t := 3) (k := .i64) (B := w.heap.size) (ys := [r]) rfl rfl (hJ.out.1.alloc _) (Rd.lit1 wx r) (by have := hm2.out; omega) (by have := hJ.out.2.2.size; simp; omega) ?_); intro B3 e3 w3 ho3 hb3 hg3 _)
                have HNX : Hid (Own .i64 3 w.heap.size w3 B3 (m2 + 1) e3 (wds b (k * j) x ++ wds b (i + 1) V) ∧ Own .u64 27 w.heap.size w3 A_qq n_qq c_qq (dg W (x / b ^ (k * j) / P)) ∧ Below w.heap.size w w3) :=
                  ⟨by rw [HW.out]; exact ho3, (hJ.out.2.1.alloc _).besides (hJ.out.1.alloc _) (by decide) hg3, (hJ.out.2.2.alloc hJ.out.2.2.size _).trans hb3⟩
                clear ho3 hb3 hg3
                go_roundw
                case rel => exact ⟨i + 1, _, _, _, HNX, hlt2, rfl, by rw [HU3.out], by go_num⟩
                case measure => simp [intOf]; omega
              · have d5 : decide ((i : Int) < (k : Int)) = false := by simp; omega
                obtain rfl : i = k := by omega
                have HEQ : Hid (x / b ^ (i * j) / P = x / b ^ (i * (j + 1)) ∧ wds b (i * j) x ++ wds b i V = wds b (i * (j + 1)) x) := by
                  refine ⟨?_, ?_⟩
                  · rw [hP.out, Nat.div_div_eq_div_mul, ← Nat.pow_add, Nat.mul_succ]
                  · rw [Nat.mul_succ, wds_add, HV.out, hP.out, ← wds_split]
                have HRL : Hid (Dg6I w b x i (j + 1) L wx A_qq n_qq c_qq B2 m2 e2 ∧ mval wx (.slice A_qq n_qq c_qq) = x / b ^ (i * j) / P) := by
                  obtain ⟨t1, t2, t3⟩ := hJ.out
                  have t4 := mval_num (t2.num l_qq)
                  rw [HEQ.out.1] at t2
                  rw [HEQ.out.2] at t1
                  exact ⟨⟨t2, t1, t3, l_qq⟩, t4⟩
                have HLT : Hid (x / b ^ (i * j) / P < x / b ^ (i * j)) := Nat.div_lt_self HN0.out (by omega)
                go_wp2
                go_roundw
                case rel => exact ⟨j + 1, _, _, _, _, _, _, HRL.out.1, rfl, rfl⟩
                case measure => rw [HRL.out.2, HMV.out]; exact HLT.out
end Go.Proofs.YtjglonmnjcnhbaaDoor
namespace Go.Proofs.YtjglonmnjcnhbaaDoor
open Go.RowKit
set_option linter.unusedVariables false

/-- append of one byte -/
theorem wpList_app81 {P : Program} {T t : TypeId} {B : Nat} {w : World} {A : Option Addr} {n c y : Nat} {xs : List Nat} {ops : Array Oper} {rest : List Oper} {o : Oper} {a : Act} {Q : Exit → Act → World → Prop} (hgd : o.guard = none) (s x : Operand)
    (ho : o.op = .call { callee := .builtin .append, args := #[s, x], argTypes := #[T, T] }) (he : Elem8 P T t)
    (hs : a.eval s = .slice A n c) {ad : Addr} (hx : a.eval x = .slice (some ad) 1 1) (hown : Own .u8 t B w A n c xs) (hc : w.cell? ad = some (.int .u8 (y : Int))) (hlen : n + 1 ≤ 1099511627776) (hB : B ≤ w.heap.size)
    (h : ∀ A' c' w', Own .u8 t B w' A' (n + 1) c' (xs ++ [y]) → Below B w w' → wpList P ops Q rest (a.put o.dst (.slice A' (n + 1) c')) w') : wpList P ops Q (o :: rest) a w := by
  obtain ⟨hT, hinfo⟩ := he
  obtain ⟨i, hi, hr⟩ := Option.map_eq_some_iff.1 hinfo
  simp only [Prod.mk.injEq] at hr
  obtain ⟨hz, hs1, hb⟩ := hr
  refine wpList_append_own_at w hgd s x T ho B t i (.int .u8 0) 1 1 hT hi hz hs1 hb rfl (by decide) _ n _ hs hown ad 1 1 [.int .u8 (y : Int)] hx rfl ?_ (by simp [Value.oneCell']) (by simp only [maxLen]; omega) (by omega) hB ?_
  · intro j u hj
    rcases j with _ | j
    · simp at hj; subst hj
      have : ad.add 0 = ad := by unfold Addr.add; split <;> simp_all
      rw [this]; exact hc
    · simp at hj
  · intro v' w' h1 h2
    intros
    obtain ⟨A', c', rfl⟩ := row_slice h1
    refine h A' c' w' ?_ ((Below.refl _ _).grown h2 hB (fun g hg' => (World.ownsRow.lt hown g hg').1))
    unfold Own
    rw [List.map_append]
    exact h1
set_option maxHeartbeats 2000000 in
set_option maxRecDepth 100000 in
theorem formatBase6_any {v : Value} {x L b : Nat} {b' : Int} {w : World} (h : Num w v x L) (eb : b' = (b : Int)) (hb : 2 ≤ b) (hb36 : b ≤ 36) (hL1 : 1 ≤ L) (hL : L ≤ 16777216) :
    Calls Tryd.prog 63 #[v, .int .i64 b'] w (Keeps (.tuple #[.string (txt b x), .int .i64 0]) w) := by
  subst eb
  obtain ⟨_, _, _, _, rfl, _⟩ := id h
  have C := Lib.hid (digits6_any h rfl hb hb36 hL1 hL)
  have HXL := Lib.hid h.lt
  have HE := Lib.hid elY
  have HA := Lib.hid (dg_all (b := b) (by omega) x)
  clear h
  go_enter Tryd.func63, Tryd.ntmps63
  go_wp2_with fail
  refine C.out.mono ?_
  rintro e w1 ⟨A, n, c, rfl, ho, hb1⟩
  have HO := Lib.hid (And.intro ho hb1)
  have hn : n ≤ 1073741824 := by
    have := dg_len64 (b := b) (by omega) HXL.out
    rw [ho.len] at this
    omega
  by_cases hx0 : x = 0
  · obtain rfl : n = 0 := (dgb_zero (by omega) ho).2 hx0
    have HT : Hid (txt b x = ⟨#[48]⟩) := by show _ = _; rw [hx0, txt_zero]
    clear ho hb1 hx0
    go_wp2
    go_ret2
    exact ⟨by rw [HT.out]; rfl, HO.out.2⟩
  · have hn0 : 0 < n := by
      rcases Nat.eq_zero_or_pos n with e | e
      · exact absurd ((dgb_zero (by omega) ho).1 e) hx0
      · exact e
    have hne : ((n : Int) == 0) = false := by rw [beq_eq_false_iff_ne]; omega
    have HX0 := Lib.hid hx0
    obtain ⟨ys, hys⟩ : ∃ ys, ys = (dg b x).reverse.map sgn := ⟨_, rfl⟩
    have HY : Hid (ys.length = n ∧ ∀ k, k < n → nth ys k = sgn (nth (dg b x) (n - 1 - k))) := by
      have hl : ys.length = n := by rw [hys, List.length_map, List.length_reverse, ho.len]
      refine ⟨hl, fun k hk => ?_⟩
      rw [nth_lt (xs := ys) (i := k) (by omega), nth_lt (xs := dg b x) (i := n - 1 - k) (by rw [ho.len]; omega)]
      subst hys
      simp only [List.getElem_map, List.getElem_reverse, ho.len]
    have HYS := Lib.hid hys
    clear ho hb1 hx0 hys
    go_wp2
    go_loopw [8, 9] (fun dv iv wr => ∃ (k m e : Nat) (B : Option Addr), Hid (Own .u8 5 w1.heap.size wr B m e (ys.take k) ∧ Below w1.heap.size w1 wr) ∧ k ≤ n ∧ dv = .slice B m e ∧ iv = .int .i64 ((n : Int) - 1 - (k : Int))) (fun _ iv _ => (intOf iv + 1).toNat)
    case atStart => exact ⟨0, 0, 0, none, ⟨Own.nil, Below.refl _ _⟩, Nat.zero_le _, rfl, by go_num⟩
    case round =>
      obtain ⟨k, m, e, B, hI, hk, rfl, rfl⟩ := hrel
      have hml : Hid (m = k) := by show _ = _; have := hI.out.1.len; rw [List.length_take, HY.out.1] at this; omega
      by_cases hlt : k < n
      · obtain ⟨M, hM⟩ : ∃ M, M = n - 1 - k := ⟨_, rfl⟩
        have em : (n : Int) - 1 - (k : Int) = (M : Int) := by omega
        rw [em]
        obtain ⟨bb, off, ea, hbb, hca⟩ := (HO.out.1.rd.below hI.out.2).at (i := M) (by omega)
        subst ea
        have i1 : (0 : Int) ≤ (M : Int) := by omega
        have i2 : (M : Int) < (n : Int) := by omega
        have hd := HA.out.nth (by omega) M
        have HT : Hid (ys.take (k + 1) = ys.take k ++ [sgn (nth (dg b x) M)]) := by
          show _ = _
          rw [take_nth (by rw [HY.out.1]; exact hlt), HY.out.2 k hlt, hM]
        have CL := Lib.hid (letter6_any (w := wr) (d := nth (dg b x) M) (d' := ((nth (dg b x) M : Nat) : Int)) rfl (by omega))
        have HM : Hid ((M : Int) - 1 = (n : Int) - 1 - ((k + 1 : Nat) : Int)) := by show _ = _; omega
        clear hd hM em
        generalize nth (dg b x) M = d at *
        generalize sgn d = s at *
        go_wp2_with (first
          | (go_at_call 34; refine CL.out.mono ?_; rintro e2 w' ⟨rfl, rfl⟩)
          | (at_builtin; refine wpList_app81 (t := 5) (B := w1.heap.size) (y := s) rfl (.tmp 29) (.tmp 35) rfl HE.out rfl rfl (hI.out.1.alloc _) (Boxed.new _ _ _).cell (by have := hml.out; omega) (by have := hI.out.2.size; simp; omega) ?_; intro B3 e3 w3 ho3 hb3))
        have HN : Hid (Own .u8 5 w1.heap.size w3 B3 (m + 1) e3 (ys.take (k + 1)) ∧ Below w1.heap.size w1 w3) := ⟨by rw [HT.out]; exact ho3, (hI.out.2.alloc hI.out.2.size _).trans hb3⟩
        clear ho3 hb3
        go_roundw
        case rel => exact ⟨k + 1, _, _, _, HN, hlt, rfl, by rw [← HM.out]⟩
        case measure => simp [intOf]
      · obtain rfl : k = n := by omega
        obtain rfl : m = k := hml.out
        have em : (m : Int) - 1 - (m : Int) = -1 := by omega
        rw [em]
        obtain ⟨g, eB, _, _⟩ := hI.out.1.form hn0
        subst eB
        have HF := hI.out.1
        rw [List.take_of_length_le (by rw [HY.out.1]; exact Nat.le_refl _)] at HF
        have h256 : All 256 ys := by
          rw [HYS.out]
          intro y hy
          obtain ⟨z, hz, rfl⟩ := List.mem_map.1 hy
          exact sgn_lt (Nat.lt_of_lt_of_le (HA.out z (List.mem_reverse.1 hz)) hb36)
        have CV := conv_back HF h256
        have HT : Hid (txt b x = ⟨(ys.map UInt8.ofNat).toArray⟩) := by
          show _ = _
          rw [txt_pos HX0.out, HYS.out, List.map_map]
          rfl
        have HB := Lib.hid (bt HO.out.2 hI.out.2)
        clear h256 HF hI em
        go_wp2
        go_ret2
        exact ⟨by rw [HT.out]; rfl, HB.out⟩
set_option maxHeartbeats 400000 in
theorem format6_any {v : Value} {x L : Nat} {w : World} (h : Num w v x L) (hL1 : 1 ≤ L) (hL : L ≤ 16777216) : Calls Tryd.prog 31 #[v] w (Keeps (.string (txt 10 x)) w) := by
  obtain ⟨_, _, _, _, rfl, _⟩ := id h
  have C := Lib.hid (formatBase6_any (b := 10) (b' := 10) h rfl (by omega) (by omega) hL1 hL)
  clear h
  go_enter Tryd.func31, Tryd.ntmps31
  go_wp2_with fail
  refine C.out.mono ?_
  rintro e w1 ⟨rfl, hb⟩
  go_wp2
  go_ret
  exact ⟨rfl, hb⟩
theorem num10 {w : World} : Num (w.alloc (.cells #[.int .u64 10] 27)) (.slice (some ⟨w.heap.size, 0, none⟩) 1 1) 10 1 :=
  ⟨_, _, _, [10], rfl, Rd.lit1 w 10, All.cons (by rw [W_eq]; omega) All.nil, by simp [val], Nat.le_refl _⟩
set_option maxHeartbeats 400000 in
theorem rten_ok {N : Nat} {n' : Int} {w : World} (en : n' = (N : Int)) (hN : N ≤ 400) : Calls Tryd.prog 13 #[.int .i64 n'] w (GNE w (10 ^ N) (N + 1) 0) := by
  subst en
  have d1 : decide ((N : Int) < 0) = false := by simp
  have d2 : decide ((10000 : Int) < (N : Int)) = false := by simp; omega
  have C := Lib.hid (pow_any (N := N) (n' := (N : Int)) (num10 (w := w)) rfl (by omega) (by omega) (by omega))
  go_enter Tryd.func13, Tryd.ntmps13
  go_wp2_with fail
  refine C.out.mono ?_
  rintro e w1 ⟨A, n, c, rfl, ho, hb, hl⟩
  have HR : Hid (Own .u64 27 w.heap.size w1 A n c (dg W (10 ^ N)) ∧ Below w.heap.size w w1 ∧ n ≤ N + 1) := ⟨ho.mono (by simp), bt (belowA _ _) hb, by omega⟩
  clear ho hb
  go_wp2
  go_ret2
  exact ⟨_, _, _, rfl, HR.out⟩
set_option maxHeartbeats 400000 in
theorem rten_neg {z : Int} {w : World} (h : z < 0) : Calls Tryd.prog 13 #[.int .i64 z] w (Keeps (.tuple #[.slice none 0 0, .int .i64 3]) w) := by
  have d1 : decide (z < 0) = true := by simp; omega
  go_enter Tryd.func13, Tryd.ntmps13
  go_wp2
  go_ret2
  exact ⟨rfl, Below.refl _ _⟩
set_option maxHeartbeats 400000 in
theorem rten_big {z : Int} {w : World} (h : 10000 < z) : Calls Tryd.prog 13 #[.int .i64 z] w (Keeps (.tuple #[.slice none 0 0, .int .i64 13]) w) := by
  obtain ⟨d1, d2⟩ : decide (z < 0) = false ∧ decide (10000 < z) = true := by constructor <;> simp <;> omega
  go_enter Tryd.func13, Tryd.ntmps13
  go_wp2
  go_ret2
  exact ⟨rfl, Below.refl _ _⟩
end Go.Proofs.YtjglonmnjcnhbaaDoor
