/-
  RadixThere.
-/
import Derived.Test.YtnmfmdilhepmjaaDoorRadF
import Derived.Test.YtnmfmdilhepmjaaDoorRef5
namespace Go.Proofs.YtnmfmdilhepmjaaDoor
open Go.RowKit
set_option linter.unusedVariables false

/-- reading a text: either a number with what it says, or the error -/
theorem NumP.cases {w : World} {s : ByteArray} {b : Nat} {e : Ending} {w' : World} (h : NumP w s b e w') :
    (okText s b ∧ ∃ A n c, e = .returned (.tuple #[.slice A n c, .int .i64 0]) ∧ Own .u64 25 w.heap.size w' A n c (dg W (val b (digs s))) ∧ Below w.heap.size w w' ∧ n ≤ s.size) ∨ (e = .returned (.tuple #[.slice none 0 0, .int .i64 5]) ∧ Below w.heap.size w w') := by
  rcases h with ⟨h1, A, n, c, h2⟩ | ⟨h1, h2, h3⟩
  · exact .inl ⟨h1, A, n, c, h2⟩
  · exact .inr ⟨h2, h3⟩
/-- reading what was written -/
theorem NumP.txt {w : World} {b x L : Nat} (hb : 2 ≤ b) (hb36 : b ≤ 36) (hx : x < W ^ L) {e : Ending} {w' : World} (h : NumP w (txt b x) b e w') :
    ∃ A n c, e = .returned (.tuple #[.slice A n c, .int .i64 0]) ∧ Own .u64 25 w.heap.size w' A n c (dg W x) ∧ Below w.heap.size w w' ∧ n ≤ L := by
  obtain ⟨h1, h2⟩ := txt_ok hb hb36 x
  rcases h with ⟨_, A, n, c, h3, h4, h5, _⟩ | ⟨h3, _⟩
  · rw [h2] at h4
    exact ⟨A, n, c, h3, h4, h5, by rw [← h4.len]; exact dg_len W_gt hx⟩
  · exact absurd h1 h3
theorem txt_len {b x L : Nat} (hb : 2 ≤ b) (hx : x < W ^ L) (hL : 1 ≤ L) : (txt b x).size ≤ 64 * L := by
  by_cases h0 : x = 0
  · subst h0
    rw [txt_zero]
    have : (⟨#[48]⟩ : ByteArray).size = 1 := rfl
    omega
  · rw [txt_size h0]; exact dg_len64 (by omega) hx
set_option maxHeartbeats 8000000 in
set_option maxRecDepth 100000 in
theorem radixThere_any {v : Value} {x L : Nat} {b : Int} {s : ByteArray} {w : World} (h : Num w v x L) (hs : SG w) (hL1 : 1 ≤ L) (hL : L ≤ 1048576) (hsz : s.size ≤ 1048576) (lb : -9223372036854775808 ≤ b) (ub : b ≤ 9223372036854775807) :
    Calls Tryd.prog 6 #[v, .int .i64 b, .string s] w (Keeps (.bool true) w) := by
  have H := Lib.hid h
  have HA := Lib.hid (awake6_any hs)
  have HS := Lib.hid hs
  have HXL := Lib.hid h.lt
  have hts : (txt 10 x).size ≤ 67108864 := by have := txt_len (b := 10) (by omega) h.lt hL1; omega
  obtain ⟨_, _, _, _, rfl, _⟩ := id h
  clear h hs
  go_enter Tryd.func6, Tryd.ntmps6
  go_wp2_with fail
  refine (HA.out).mono ?_
  rintro e w1 ⟨rfl, hb1⟩
  go_wp2_with fail
  refine (norm5_any (H.out.below hb1) (by omega)).mono ?_
  rintro e w2 ⟨A_own, n_own, c_own, rfl, o_own, hb2, l_own⟩
  go_wp2_with fail
  refine (rformat_any ((H.out.below hb1).below hb2) ((HS.out.below hb1).below hb2) (by omega)).mono ?_
  rintro e w3 ⟨rfl, hb3⟩
  go_wp2_with fail
  refine (rparse_any (((HS.out.below hb1).below hb2).below hb3) (by omega)).mono ?_
  rintro e wp hp
  obtain ⟨A_p, n_p, c_p, rfl, o_p, hbp, l_p⟩ := hp.txt (by omega) (by omega) HXL.out
  clear hp
  go_wp2_with fail
  refine (same5_any o_p.rd ((o_own.rd.below hb3).below hbp) rfl (by omega)).mono ?_
  rintro e w4 ⟨rfl, hb4⟩
  go_wp2_with fail
  refine (rparse_any (s := s) (((((HS.out.below hb1).below hb2).below hb3).below hbp).below hb4) (by omega)).mono ?_
  rintro e wq hq
  rcases hq.cases with ⟨hok, A_q, n_q, c_q, rfl, o_q, hbq, l_q⟩ | ⟨rfl, hbq⟩
  · have TB := Lib.hid (txt_back (by omega) (by omega) hok)
    clear hq hok
    have CF := Lib.hid (rformat_any (w := wq) (o_q.num (L := 1048576) (by omega)) ((((((HS.out.below hb1).below hb2).below hb3).below hbp).below hb4).below hbq) (by omega))
    rw [TB.out] at CF
    go_wp2_with fail
    refine (CF.out).mono ?_
    rintro e w5 ⟨rfl, hb5⟩
    by_cases g1 : b < 2
    · have d1 : decide (b < 2) = true := by simp; omega
      go_wp2_with fail
      refine (rformatBase_bad (.inl g1)).mono ?_
      rintro e w6 ⟨rfl, hb6⟩
      go_wp2_with fail
      refine (rplain_any).mono ?_
      rintro e w' ⟨rfl, rfl⟩
      have HB2 := Lib.hid (bt (bt (bt (bt (bt (bt (bt hb1 hb2) hb3) hbp) hb4) hbq) hb5) hb6)
      go_wp2
      go_ret
      exact ⟨by simp, HB2.out⟩
    · have d1 : decide (b < 2) = false := by simp; omega
      by_cases g2 : 36 < b
      · have d2 : decide (36 < b) = true := by simp; omega
        go_wp2_with fail
        refine (rformatBase_bad (.inr g2)).mono ?_
        rintro e w8 ⟨rfl, hb8⟩
        go_wp2_with fail
        refine (rplain_any).mono ?_
        rintro e w' ⟨rfl, rfl⟩
        have HB2 := Lib.hid (bt (bt (bt (bt (bt (bt (bt hb1 hb2) hb3) hbp) hb4) hbq) hb5) hb8)
        go_wp2
        go_ret
        exact ⟨by simp, HB2.out⟩
      · have d2 : decide (36 < b) = false := by simp; omega
        obtain ⟨bn, rfl⟩ : ∃ bn : Nat, b = (bn : Int) := ⟨b.toNat, by omega⟩
        have B2 : 2 ≤ bn := by omega
        have B36 : bn ≤ 36 := by omega
        have HAD := Lib.hid (dg_all (b := bn) (by omega) x)
        have HLN := Lib.hid (dg_len64 (b := bn) (by omega) HXL.out)
        have htb : (txt bn x).size ≤ 67108864 := by have := txt_len (b := bn) B2 HXL.out hL1; omega
        clear g1 g2
        go_wp2_with fail
        refine (rformatBase_any (((((((H.out.below hb1).below hb2).below hb3).below hbp).below hb4).below hbq).below hb5) (((((((HS.out.below hb1).below hb2).below hb3).below hbp).below hb4).below hbq).below hb5) rfl B2 B36 (by omega)).mono ?_
        rintro e w10 ⟨rfl, hb10⟩
        go_wp2_with fail
        refine (rparseBase_any (b := bn) ((((((((HS.out.below hb1).below hb2).below hb3).below hbp).below hb4).below hbq).below hb5).below hb10) rfl B2 B36 (by omega)).mono ?_
        rintro e wt ht
        obtain ⟨A_t, n_t, c_t, rfl, o_t, hbt, l_t⟩ := ht.txt B2 B36 HXL.out
        clear ht
        go_wp2_with fail
        refine (same5_any o_t.rd (((((((o_own.rd.below hb3).below hbp).below hb4).below hbq).below hb5).below hb10).below hbt) rfl (by omega)).mono ?_
        rintro e w11 ⟨rfl, hb11⟩
        go_wp2_with fail
        refine (rparseBase_any (b := bn) (s := s) ((((((((((HS.out.below hb1).below hb2).below hb3).below hbp).below hb4).below hbq).below hb5).below hb10).below hbt).below hb11) rfl B2 B36 (by omega)).mono ?_
        rintro e wu hu
        rcases hu.cases with ⟨hok, A_u, n_u, c_u, rfl, o_u, hbu, l_u⟩ | ⟨rfl, hbu⟩
        · have TB2 := Lib.hid (txt_back B2 B36 hok)
          clear hu hok
          have CF2 := Lib.hid (rformatBase_any (w := wu) (o_u.num (L := 1048576) (by omega)) (((((((((((HS.out.below hb1).below hb2).below hb3).below hbp).below hb4).below hbq).below hb5).below hb10).below hbt).below hb11).below hbu) rfl B2 B36 (by omega))
          rw [TB2.out] at CF2
          go_wp2_with fail
          refine (CF2.out).mono ?_
          rintro e w12 ⟨rfl, hb12⟩
          go_wp2_with fail
          refine (rdigits_any ((((((((((((H.out.below hb1).below hb2).below hb3).below hbp).below hb4).below hbq).below hb5).below hb10).below hbt).below hb11).below hbu).below hb12) rfl B2 B36 (by omega)).mono ?_
          rintro e w13 ⟨A_d, n_d, c_d, rfl, o_d, hb13⟩
          have HLD := Lib.hid o_d.len
          have hln : n_d ≤ 67108864 := by have := HLD.out; have := HLN.out; omega
          have C5 := Lib.hid (rfromDigits_any (b := bn) o_d.rd.ints rfl B2 B36 (by omega))
          go_wp2_with fail
          refine C5.out.mono ?_
          rintro e w5 (⟨_, A_f, n_f, c_f, rfl, o_f, hbf, l_f⟩ | ⟨hno, _⟩)
          rotate_left
          · exact absurd (okDigs_nats HAD.out) hno
          rw [toN_nats, dg_val (by omega)] at o_f
          go_wp2_with fail
          refine (same5_any o_f.rd ((((((((((((o_own.rd.below hb3).below hbp).below hb4).below hbq).below hb5).below hb10).below hbt).below hb11).below hbu).below hb12).below hb13).below hbf) rfl (by omega)).mono ?_
          rintro e w14 ⟨rfl, hb14⟩
          have HB2 := Lib.hid (bt (bt (bt (bt (bt (bt (bt (bt (bt (bt (bt (bt (bt (bt hb1 hb2) hb3) hbp) hb4) hbq) hb5) hb10) hbt) hb11) hbu) hb12) hb13) hbf) hb14)
          go_wp2
          go_ret
          exact ⟨by simp, HB2.out⟩
        · clear hu
          go_wp2_with fail
          refine (rdigits_any (((((((((((H.out.below hb1).below hb2).below hb3).below hbp).below hb4).below hbq).below hb5).below hb10).below hbt).below hb11).below hbu) rfl B2 B36 (by omega)).mono ?_
          rintro e w15 ⟨A_d, n_d, c_d, rfl, o_d, hb15⟩
          have HLD := Lib.hid o_d.len
          have hln : n_d ≤ 67108864 := by have := HLD.out; have := HLN.out; omega
          have C5 := Lib.hid (rfromDigits_any (b := bn) o_d.rd.ints rfl B2 B36 (by omega))
          go_wp2_with fail
          refine C5.out.mono ?_
          rintro e w5 (⟨_, A_f, n_f, c_f, rfl, o_f, hbf, l_f⟩ | ⟨hno, _⟩)
          rotate_left
          · exact absurd (okDigs_nats HAD.out) hno
          rw [toN_nats, dg_val (by omega)] at o_f
          go_wp2_with fail
          refine (same5_any o_f.rd (((((((((((o_own.rd.below hb3).below hbp).below hb4).below hbq).below hb5).below hb10).below hbt).below hb11).below hbu).below hb15).below hbf) rfl (by omega)).mono ?_
          rintro e w16 ⟨rfl, hb16⟩
          have HB2 := Lib.hid (bt (bt (bt (bt (bt (bt (bt (bt (bt (bt (bt (bt (bt hb1 hb2) hb3) hbp) hb4) hbq) hb5) hb10) hbt) hb11) hbu) hb15) hbf) hb16)
          go_wp2
          go_ret
          exact ⟨by simp, HB2.out⟩
  · clear hq
    by_cases g1 : b < 2
    · have d1 : decide (b < 2) = true := by simp; omega
      go_wp2_with fail
      refine (rformatBase_bad (.inl g1)).mono ?_
      rintro e w17 ⟨rfl, hb17⟩
      go_wp2_with fail
      refine (rplain_any).mono ?_
      rintro e w' ⟨rfl, rfl⟩
      have HB2 := Lib.hid (bt (bt (bt (bt (bt (bt hb1 hb2) hb3) hbp) hb4) hbq) hb17)
      go_wp2
      go_ret
      exact ⟨by simp, HB2.out⟩
    · have d1 : decide (b < 2) = false := by simp; omega
      by_cases g2 : 36 < b
      · have d2 : decide (36 < b) = true := by simp; omega
        go_wp2_with fail
        refine (rformatBase_bad (.inr g2)).mono ?_
        rintro e w19 ⟨rfl, hb19⟩
        go_wp2_with fail
        refine (rplain_any).mono ?_
        rintro e w' ⟨rfl, rfl⟩
        have HB2 := Lib.hid (bt (bt (bt (bt (bt (bt hb1 hb2) hb3) hbp) hb4) hbq) hb19)
        go_wp2
        go_ret
        exact ⟨by simp, HB2.out⟩
      · have d2 : decide (36 < b) = false := by simp; omega
        obtain ⟨bn, rfl⟩ : ∃ bn : Nat, b = (bn : Int) := ⟨b.toNat, by omega⟩
        have B2 : 2 ≤ bn := by omega
        have B36 : bn ≤ 36 := by omega
        have HAD := Lib.hid (dg_all (b := bn) (by omega) x)
        have HLN := Lib.hid (dg_len64 (b := bn) (by omega) HXL.out)
        have htb : (txt bn x).size ≤ 67108864 := by have := txt_len (b := bn) B2 HXL.out hL1; omega
        clear g1 g2
        go_wp2_with fail
        refine (rformatBase_any ((((((H.out.below hb1).below hb2).below hb3).below hbp).below hb4).below hbq) ((((((HS.out.below hb1).below hb2).below hb3).below hbp).below hb4).below hbq) rfl B2 B36 (by omega)).mono ?_
        rintro e w21 ⟨rfl, hb21⟩
        go_wp2_with fail
        refine (rparseBase_any (b := bn) (((((((HS.out.below hb1).below hb2).below hb3).below hbp).below hb4).below hbq).below hb21) rfl B2 B36 (by omega)).mono ?_
        rintro e wt ht
        obtain ⟨A_t, n_t, c_t, rfl, o_t, hbt, l_t⟩ := ht.txt B2 B36 HXL.out
        clear ht
        go_wp2_with fail
        refine (same5_any o_t.rd ((((((o_own.rd.below hb3).below hbp).below hb4).below hbq).below hb21).below hbt) rfl (by omega)).mono ?_
        rintro e w22 ⟨rfl, hb22⟩
        go_wp2_with fail
        refine (rparseBase_any (b := bn) (s := s) (((((((((HS.out.below hb1).below hb2).below hb3).below hbp).below hb4).below hbq).below hb21).below hbt).below hb22) rfl B2 B36 (by omega)).mono ?_
        rintro e wu hu
        rcases hu.cases with ⟨hok, A_u, n_u, c_u, rfl, o_u, hbu, l_u⟩ | ⟨rfl, hbu⟩
        · have TB2 := Lib.hid (txt_back B2 B36 hok)
          clear hu hok
          have CF2 := Lib.hid (rformatBase_any (w := wu) (o_u.num (L := 1048576) (by omega)) ((((((((((HS.out.below hb1).below hb2).below hb3).below hbp).below hb4).below hbq).below hb21).below hbt).below hb22).below hbu) rfl B2 B36 (by omega))
          rw [TB2.out] at CF2
          go_wp2_with fail
          refine (CF2.out).mono ?_
          rintro e w23 ⟨rfl, hb23⟩
          go_wp2_with fail
          refine (rdigits_any (((((((((((H.out.below hb1).below hb2).below hb3).below hbp).below hb4).below hbq).below hb21).below hbt).below hb22).below hbu).below hb23) rfl B2 B36 (by omega)).mono ?_
          rintro e w24 ⟨A_d, n_d, c_d, rfl, o_d, hb24⟩
          have HLD := Lib.hid o_d.len
          have hln : n_d ≤ 67108864 := by have := HLD.out; have := HLN.out; omega
          have C5 := Lib.hid (rfromDigits_any (b := bn) o_d.rd.ints rfl B2 B36 (by omega))
          go_wp2_with fail
          refine C5.out.mono ?_
          rintro e w5 (⟨_, A_f, n_f, c_f, rfl, o_f, hbf, l_f⟩ | ⟨hno, _⟩)
          rotate_left
          · exact absurd (okDigs_nats HAD.out) hno
          rw [toN_nats, dg_val (by omega)] at o_f
          go_wp2_with fail
          refine (same5_any o_f.rd (((((((((((o_own.rd.below hb3).below hbp).below hb4).below hbq).below hb21).below hbt).below hb22).below hbu).below hb23).below hb24).below hbf) rfl (by omega)).mono ?_
          rintro e w25 ⟨rfl, hb25⟩
          have HB2 := Lib.hid (bt (bt (bt (bt (bt (bt (bt (bt (bt (bt (bt (bt (bt hb1 hb2) hb3) hbp) hb4) hbq) hb21) hbt) hb22) hbu) hb23) hb24) hbf) hb25)
          go_wp2
          go_ret
          exact ⟨by simp, HB2.out⟩
        · clear hu
          go_wp2_with fail
          refine (rdigits_any ((((((((((H.out.below hb1).below hb2).below hb3).below hbp).below hb4).below hbq).below hb21).below hbt).below hb22).below hbu) rfl B2 B36 (by omega)).mono ?_
          rintro e w26 ⟨A_d, n_d, c_d, rfl, o_d, hb26⟩
          have HLD := Lib.hid o_d.len
          have hln : n_d ≤ 67108864 := by have := HLD.out; have := HLN.out; omega
          have C5 := Lib.hid (rfromDigits_any (b := bn) o_d.rd.ints rfl B2 B36 (by omega))
          go_wp2_with fail
          refine C5.out.mono ?_
          rintro e w5 (⟨_, A_f, n_f, c_f, rfl, o_f, hbf, l_f⟩ | ⟨hno, _⟩)
          rotate_left
          · exact absurd (okDigs_nats HAD.out) hno
          rw [toN_nats, dg_val (by omega)] at o_f
          go_wp2_with fail
          refine (same5_any o_f.rd ((((((((((o_own.rd.below hb3).below hbp).below hb4).below hbq).below hb21).below hbt).below hb22).below hbu).below hb26).below hbf) rfl (by omega)).mono ?_
          rintro e w27 ⟨rfl, hb27⟩
          have HB2 := Lib.hid (bt (bt (bt (bt (bt (bt (bt (bt (bt (bt (bt (bt hb1 hb2) hb3) hbp) hb4) hbq) hb21) hbt) hb22) hbu) hb26) hbf) hb27)
          go_wp2
          go_ret
          exact ⟨by simp, HB2.out⟩
end Go.Proofs.YtnmfmdilhepmjaaDoor
