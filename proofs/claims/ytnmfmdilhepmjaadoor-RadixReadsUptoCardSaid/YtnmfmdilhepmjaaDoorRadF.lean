/-
  radix.Digits, FromDigits; surdref05.Same. Texts of numbers, in plain Lean: what is written is read again, what is read is written again. No program here.
-/
import Derived.Test.YtnmfmdilhepmjaaDoorRad
import Derived.Test.YtnmfmdilhepmjaaDoorFixed
namespace Go.Proofs.YtnmfmdilhepmjaaDoor
open Go.RowKit
set_option linter.unusedVariables false

/-- new digits in a base -/
def GDI (w : World) (b x : Nat) (e : Ending) (w' : World) : Prop :=
  ∃ A n c, e = .returned (.tuple #[.slice A n c, .int .i64 0]) ∧ Own .i64 3 w.heap.size w' A n c (dg b x) ∧ Below w.heap.size w w'
theorem take_nth {xs : List Nat} {k : Nat} (h : k < xs.length) : xs.take (k + 1) = xs.take k ++ [nth xs k] := by
  rw [List.take_succ_eq_append_getElem h, nth_lt h]
set_option maxHeartbeats 1000000 in
theorem rdigits_any {v : Value} {x L b : Nat} {b' : Int} {w : World} (h : Num w v x L) (eb : b' = (b : Int)) (hb : 2 ≤ b) (hb36 : b ≤ 36) (hL : L ≤ 16777216) :
    Calls Tryd.prog 32 #[v, .int .i64 b'] w (GDI w b x) := by
  subst eb
  obtain ⟨_, _, _, _, rfl, _⟩ := id h
  have H := Lib.hid h
  have HE := Lib.hid elI
  have HX := Lib.hid h.lt
  have HA := Lib.hid (dg_all (b := b) (by omega) x)
  have HL := Lib.hid hL
  have CB := Lib.hid (isBase_yes (b := (b : Int)) (w := w) (by omega))
  clear h hL
  go_enter Tryd.func32, Tryd.ntmps32
  go_wp2_with fail
  refine (CB.out).mono ?_
  rintro e w' ⟨rfl, rfl⟩
  go_wp2_with fail
  refine (ddigits_any (b := b) H.out rfl hb (by rw [W_eq]; omega) (by have := HL.out; omega)).mono ?_
  rintro e w2 ⟨A_d, n_d, c_d, rfl, o_d, hb2⟩
  have HO := Lib.hid o_d
  have hn : n_d ≤ 1073741824 := by
    have := dg_len64 (b := b) (by omega) HX.out
    rw [o_d.len] at this
    have := HL.out
    omega
  have HBd := Lib.hid hb2
  obtain ⟨w1, hw1⟩ : ∃ w1, w1 = w2 := ⟨_, rfl⟩
  rw [← hw1] at HO HBd ⊢
  clear hw1 o_d
  go_wp2
  go_loopw [8, 23] (fun dv iv wr => ∃ (k : Nat) (B : Option Addr) (m e : Nat), Hid (Own .i64 3 w1.heap.size wr B m e ((dg b x).take k) ∧ Below w1.heap.size w1 wr) ∧ k ≤ n_d ∧ dv = .slice B m e ∧ iv = .int .i64 (k : Int)) (fun _ iv _ => n_d - (intOf iv).toNat)
  case atStart => exact ⟨0, none, 0, 0, ⟨Own.nil, Below.refl _ _⟩, Nat.zero_le _, rfl, rfl⟩
  case round =>
    obtain ⟨k, B, m, e, hI, hk, rfl, rfl⟩ := hrel
    by_cases hlt : k < n_d
    · obtain ⟨bb, off, ea, hbb, hca⟩ := (HO.out.rd.below hI.out.2).at hlt
      subst ea
      have i1 : (0 : Int) ≤ (k : Int) := by omega
      have i2 : (k : Int) < (n_d : Int) := by omega
      have hd := HA.out.nth (by omega) k
      have hd2 : ((nth (dg b x) k : Nat) : Int) < 36 := by omega
      have hd0 : (0 : Int) ≤ ((nth (dg b x) k : Nat) : Int) := by omega
      have hsz : Hid (m ≤ 1073741824) := by
        show _ ≤ _
        have := hI.out.1.len
        rw [List.length_take, HO.out.len] at this
        omega
      have HT : Hid ((dg b x).take (k + 1) = (dg b x).take k ++ [nth (dg b x) k]) := take_nth (by rw [HO.out.len]; exact hlt)
      clear hd
      generalize nth (dg b x) k = d at *
      go_wp2_with (at_builtin; (refine wpList_app rfl (.tmp 27) (.tmp 30) rfl HE.out (t := 3) (k := .i64) (B := w1.heap.size) (ys := [d]) rfl rfl (hI.out.1.alloc _) (Rd.lit1 wr _) (by have := hsz.out; omega) (by have := hI.out.2.size; simp; omega) ?_); intro B1 e1 w3 ho3 hb3 _ _)
      go_roundw
      case rel => exact ⟨k + 1, _, _, _, ⟨by rw [HT.out]; exact ho3, (hI.out.2.alloc hI.out.2.size _).trans hb3⟩, by omega, rfl, by go_num⟩
      case measure => simp [intOf]; omega
    · obtain rfl : k = n_d := by omega
      have HF : Hid (Own .i64 3 w.heap.size wr B m e (dg b x) ∧ Below w.heap.size w wr) := by
        have h1 := hI.out.1
        rw [List.take_of_length_le (by rw [HO.out.len]; exact Nat.le_refl _)] at h1
        exact ⟨h1.mono HBd.out.size, bt HBd.out hI.out.2⟩
      clear hI
      go_wp2
      go_ret2
      exact ⟨_, _, _, rfl, HF.out⟩
def zth (zs : List Int) (k : Nat) : Int := zs.getD k 0
/-- a slice of ints reads as a list -/
def Rdz (w : World) (A : Option Addr) (n c : Nat) (zs : List Int) : Prop :=
  (zs.length = n ∧ n ≤ c) ∧ (0 < n → ∃ b off, A = some ⟨b, off, none⟩ ∧ b < w.heap.size ∧ ∀ i, i < n → w.cell? ⟨b, off + i, none⟩ = some (.int .i64 (zth zs i)))
theorem Rd.ints {w : World} {A : Option Addr} {n c : Nat} {xs : List Nat} (h : Rd .i64 w A n c xs) : Rdz w A n c (xs.map fun (x : Nat) => (x : Int)) :=
  ⟨⟨by rw [List.length_map]; exact h.len, h.cap⟩, fun h0 => by
    obtain ⟨b, off, e, hb, hc⟩ := h.2 h0
    refine ⟨b, off, e, hb, fun i hi => ?_⟩
    rw [hc i hi, nth_lt (by rw [h.len]; exact hi), zth, List.getD_eq_getElem?_getD, List.getElem?_map, List.getElem?_eq_getElem (by rw [h.len]; exact hi)]
    rfl⟩
theorem Rdz.below {w w' : World} {A : Option Addr} {n c : Nat} {zs : List Int} (h : Rdz w A n c zs) (hb : Below w.heap.size w w') : Rdz w' A n c zs :=
  ⟨h.1, fun h0 => by
    obtain ⟨b, off, e, h1, hc⟩ := h.2 h0
    exact ⟨b, off, e, Nat.lt_of_lt_of_le h1 hb.size, fun i hi => (hb.cell (p := ⟨b, off + i, none⟩) h1).trans (hc i hi)⟩⟩
def toN (zs : List Int) : List Nat := zs.map Int.toNat
theorem toN_nats (xs : List Nat) : toN (xs.map fun (x : Nat) => (x : Int)) = xs := by
  unfold toN
  rw [List.map_map]
  conv => rhs; rw [← List.map_id xs]
  exact List.map_congr_left fun x _ => by simp
def okDigs (zs : List Int) (b : Nat) : Prop := ∀ i, i < zs.length → 0 ≤ zth zs i ∧ zth zs i < (b : Int)
theorem okDigs_nats {xs : List Nat} {b : Nat} (h : All b xs) : okDigs (xs.map fun (x : Nat) => (x : Int)) b := fun i hi => by
  rw [List.length_map] at hi
  have := h xs[i] (List.getElem_mem hi)
  rw [zth, List.getD_eq_getElem?_getD, List.getElem?_map, List.getElem?_eq_getElem hi]
  simp
  omega
theorem okDigs_all {zs : List Int} {b : Nat} (h : okDigs zs b) : All b (toN zs) := by
  intro y hy
  obtain ⟨z, hz, rfl⟩ := List.mem_map.1 hy
  obtain ⟨i, hi, rfl⟩ := List.mem_iff_getElem.1 hz
  have := h i hi
  rw [zth, List.getD_eq_getElem?_getD, List.getElem?_eq_getElem hi] at this
  simp at this
  omega
theorem nth_toN {zs : List Int} {k : Nat} (h : k < zs.length) : nth (toN zs) k = (zth zs k).toNat := by
  rw [nth_lt (by simpa [toN] using h)]
  simp [toN, zth, h]
def FrP (w : World) (zs : List Int) (b n : Nat) (e : Ending) (w' : World) : Prop :=
  (okDigs zs b ∧ GNE w (val b (toN zs)) n 0 e w') ∨ (¬ okDigs zs b ∧ Keeps (.tuple #[.slice none 0 0, .int .i64 3]) w e w')
set_option maxHeartbeats 1000000 in
theorem rfromDigits_bad {v : Value} {b' : Int} {w : World} (hb : b' < 2 ∨ 36 < b') :
    Calls Tryd.prog 34 #[v, .int .i64 b'] w (Keeps (.tuple #[.slice none 0 0, .int .i64 3]) w) := by
  have CB := Lib.hid (isBase_no (b := b') (w := w) hb)
  clear hb
  go_enter Tryd.func34, Tryd.ntmps34
  go_wp2_with fail
  refine (CB.out).mono ?_
  rintro e w' ⟨rfl, rfl⟩
  go_wp2
  go_ret2
  exact ⟨rfl, Below.refl _ _⟩
set_option maxHeartbeats 1000000 in
theorem rfromDigits_any {A : Option Addr} {n c b : Nat} {b' : Int} {zs : List Int} {w : World} (h : Rdz w A n c zs) (eb : b' = (b : Int)) (hb : 2 ≤ b) (hb36 : b ≤ 36) (hn : n ≤ 1073741824) :
    Calls Tryd.prog 34 #[.slice A n c, .int .i64 b'] w (FrP w zs b n) := by
  subst eb
  have H := Lib.hid h
  have HE := Lib.hid elW
  have CB := Lib.hid (isBase_yes (b := (b : Int)) (w := w) (by omega))
  clear h
  go_enter Tryd.func34, Tryd.ntmps34
  go_wp2_with fail
  refine (CB.out).mono ?_
  rintro e w' ⟨rfl, rfl⟩
  go_wp2
  go_loopw [6, 14] (fun dv iv wr => ∃ (k : Nat) (B : Option Addr) (m e : Nat), Hid (Own .u64 25 w.heap.size wr B m e ((toN zs).take k) ∧ Below w.heap.size w wr ∧ ∀ j, j < k → 0 ≤ zth zs j ∧ zth zs j < (b : Int)) ∧ k ≤ n ∧ dv = .slice B m e ∧ iv = .int .i64 (k : Int)) (fun _ iv _ => n - (intOf iv).toNat)
  case atStart => exact ⟨0, none, 0, 0, ⟨Own.nil, Below.refl _ _, fun j hj => by omega⟩, Nat.zero_le _, rfl, rfl⟩
  case round =>
    obtain ⟨k, B, m, e, hI, hk, rfl, rfl⟩ := hrel
    by_cases hlt : k < n
    · obtain ⟨bb, off, ea, hbb, hca⟩ := (H.out.below hI.out.2.1).2 (by omega)
      subst ea
      have hcb := hca k hlt
      clear hca
      have i1 : (0 : Int) ≤ (k : Int) := by omega
      have i2 : (k : Int) < (n : Int) := by omega
      by_cases hz : 0 ≤ zth zs k ∧ zth zs k < (b : Int)
      · have hsz : Hid (m ≤ 1073741824) := by
          show _ ≤ _
          have := hI.out.1.len
          simp only [List.length_take, toN, List.length_map, H.out.1.1] at this
          omega
        obtain ⟨d, hd⟩ : ∃ d : Nat, zth zs k = (d : Int) := ⟨(zth zs k).toNat, by omega⟩
        have HT : Hid ((toN zs).take (k + 1) = (toN zs).take k ++ [d]) := by
          show _ = _
          rw [take_nth (by simp [toN, H.out.1.1]; exact hlt), nth_toN (by rw [H.out.1.1]; exact hlt), hd]
          simp
        have HZ : Hid (∀ j, j < k + 1 → 0 ≤ zth zs j ∧ zth zs j < (b : Int)) := fun j hj => by
          by_cases hjk : j = k
          · rw [hjk]; exact hz
          · exact hI.out.2.2 j (by omega)
        rw [hd] at hcb hz
        obtain ⟨hz1, hz2⟩ := hz
        have q1 : decide ((d : Int) < 0) = false := by simp
        have q2 : decide ((b : Int) ≤ (d : Int)) = false := by simp; omega
        have hd2 : (d : Int) < 36 := by omega
        clear hd
        go_wp2_with (at_builtin; (refine wpList_app rfl (.tmp 25) (.tmp 28) rfl HE.out (t := 25) (k := .u64) (B := w.heap.size) (ys := [d]) rfl rfl (hI.out.1.alloc _) (Rd.lit1 wr _) (by have := hsz.out; omega) (by have := hI.out.2.1.size; simp; omega) ?_); intro B1 e1 w3 ho3 hb3 _ _)
        go_roundw
        case rel => exact ⟨k + 1, _, _, _, ⟨by rw [HT.out]; exact ho3, (hI.out.2.1.alloc hI.out.2.1.size _).trans hb3, HZ.out⟩, by omega, rfl, by go_num⟩
        case measure => simp [intOf]; omega
      · have HB : Hid (¬ okDigs zs b) := fun h => hz (h k (by rw [H.out.1.1]; exact hlt))
        by_cases hz1 : zth zs k < 0
        · have q1 : decide (zth zs k < 0) = true := by simp; omega
          clear hz
          generalize zth zs k = z at *
          go_wp2
          go_ret2
          exact .inr ⟨HB.out, rfl, hI.out.2.1⟩
        · have q1 : decide (zth zs k < 0) = false := by simp; omega
          have q2 : decide ((b : Int) ≤ zth zs k) = true := by simp; omega
          clear hz
          generalize zth zs k = z at *
          go_wp2
          go_ret2
          exact .inr ⟨HB.out, rfl, hI.out.2.1⟩
    · obtain rfl : k = n := by omega
      have HG : Hid (okDigs zs b) := fun i hi => hI.out.2.2 i (by rw [H.out.1.1] at hi; exact hi)
      have HF : Hid (Own .u64 25 w.heap.size wr B m e (toN zs) ∧ Below w.heap.size w wr) := by
        have h1 := hI.out.1
        rw [List.take_of_length_le (by simp [toN, H.out.1.1])] at h1
        exact ⟨h1, hI.out.2.1⟩
      obtain rfl : m = k := by have := HF.out.1.len; simp [toN, H.out.1.1] at this; omega
      have C := Lib.hid (undigits_any (b := b) HF.out.1.rd (okDigs_all HG.out) hb (by rw [W_eq]; omega) (by omega))
      clear hI
      go_wp2_with fail
      refine C.out.mono ?_
      rintro e w3 ⟨A3, n3, c3, rfl, ho3, hb3, hl3⟩
      have HR : Hid (Own .u64 25 w.heap.size w3 A3 n3 c3 (dg W (val b (toN zs))) ∧ Below w.heap.size w w3) := ⟨ho3.mono HF.out.2.size, bt HF.out.2 hb3⟩
      clear ho3 hb3
      go_wp2
      go_ret2
      exact .inl ⟨HG.out, _, _, _, rfl, HR.out.1, HR.out.2, by omega⟩
theorem same5_any {A A2 : Option Addr} {n c m c2 : Nat} {xs ys : List Nat} {w : World} (h : Rd .u64 w A n c xs) (h' : Rd .u64 w A2 m c2 ys) (e : xs = ys) (hn : n ≤ 1099511627776) :
    Calls Tryd.prog 27 #[.slice A n c, .slice A2 m c2] w (Keeps (.bool true) w) := by
  have C : Hid (Calls Tryd.prog 57 #[.slice A n c, .slice A2 m c2] w (Keeps (.bool true) w)) := (same1_any h h' hn).mono fun _ _ ⟨he, q, hq⟩ => ⟨by rw [he, e]; simp, by rw [hq]; exact below_drewN _ _⟩
  clear h h'
  go_enter Tryd.func27, Tryd.ntmps27
  go_wp2_with fail
  refine C.out.mono ?_
  rintro e w1 ⟨rfl, hb⟩
  go_wp2
  go_ret
  exact ⟨rfl, hb⟩
end Go.Proofs.YtnmfmdilhepmjaaDoor
namespace Go.Proofs.YtnmfmdilhepmjaaDoor
set_option linter.unusedVariables false

theorem byt_list {l : List UInt8} {j : Nat} (h : j < l.length) : byt ⟨l.toArray⟩ j = l[j].toNat := by
  simp [byt, h]
theorem sgn_toNat {d : Nat} (h : d < 36) : (UInt8.ofNat (sgn d)).toNat = sgn d := by
  have := sgn_lt h
  simp [UInt8.toNat_ofNat']
  omega
theorem sgn_zero {d : Nat} (h : d < 36) : sgn d = 48 ↔ d = 0 := by unfold sgn; split <;> omega
theorem dgv_zero {c : Nat} : dgv c = 0 ↔ c = 48 := by unfold dgv; split <;> (try split) <;> omega
theorem txt_zero (b : Nat) : txt b 0 = ⟨#[48]⟩ := by rw [txt, txtl, if_pos rfl]; rfl
theorem txt_pos {b x : Nat} (h : x ≠ 0) : txt b x = ⟨((dg b x).reverse.map fun d => UInt8.ofNat (sgn d)).toArray⟩ := by rw [txt, txtl, if_neg h]
theorem txt_size {b x : Nat} (h : x ≠ 0) : (txt b x).size = (dg b x).length := by
  rw [txt_pos h]
  show (List.toArray _).size = _
  simp
theorem txt_byt {b x j : Nat} (hb36 : b ≤ 36) (hb : 2 ≤ b) (h : x ≠ 0) (hj : j < (dg b x).length) : byt (txt b x) j = sgn (nth (dg b x) ((dg b x).length - 1 - j)) := by
  rw [txt_pos h, byt_list (by simpa using hj)]
  have hlt : (dg b x).length - 1 - j < (dg b x).length := by omega
  rw [nth_lt hlt]
  simp only [List.getElem_map, List.getElem_reverse]
  exact sgn_toNat (Nat.lt_of_lt_of_le (dg_all (by omega) x _ (List.getElem_mem hlt)) hb36)
theorem txt_ok {b : Nat} (hb : 2 ≤ b) (hb36 : b ≤ 36) (x : Nat) : okText (txt b x) b ∧ val b (digs (txt b x)) = x := by
  by_cases h0 : x = 0
  · subst h0
    rw [txt_zero]
    have e1 : byt ⟨#[48]⟩ 0 = 48 := rfl
    have e2 : dgv 48 = 0 := rfl
    refine ⟨⟨by decide, fun h => absurd h.1 (by decide), fun k hk => ?_⟩, ?_⟩
    · obtain rfl : k = 0 := by have : (⟨#[48]⟩ : ByteArray).size = 1 := rfl; omega
      rw [e1, e2]; omega
    · show val b [dgv (byt ⟨#[48]⟩ 0)] = 0
      rw [e1, e2]; rfl
  · have hs := txt_size (b := b) h0
    have hn : 0 < (dg b x).length := List.length_pos_iff.2 fun e => h0 ((dg_nil_iff (by omega)).1 e)
    have hall := dg_all (b := b) (by omega) x
    have ht := norm_top (dg_norm (b := b) x) hn
    have hd : ∀ k, k < (dg b x).length → dgv (byt (txt b x) k) = nth (dg b x) ((dg b x).length - 1 - k) := fun k hk => by
      rw [txt_byt hb36 hb h0 hk, dgv_sgn]
      exact Nat.lt_of_lt_of_le (hall.nth (by omega) _) hb36
    refine ⟨⟨by omega, fun h => ?_, fun k hk => ?_⟩, ?_⟩
    · have h2 := h.2
      rw [txt_byt hb36 hb h0 hn, sgn_zero (Nat.lt_of_lt_of_le (hall.nth (by omega) _) hb36), Nat.sub_zero] at h2
      exact ht h2
    · rw [hd k (by omega)]
      exact hall.nth (by omega) _
    · have : digs (txt b x) = dg b x := by
        refine eq_of_nth (by rw [digs_len, hs]) fun i hi => ?_
        rw [digs_len] at hi
        rw [nth_digs hi, hd _ (by omega), hs, show (dg b x).length - 1 - ((dg b x).length - 1 - i) = i by omega]
      rw [this, dg_val (by omega)]
theorem bytes_ext {s t : ByteArray} (h : s.data.toList = t.data.toList) : s = t := by
  obtain ⟨⟨a⟩⟩ := s
  obtain ⟨⟨b⟩⟩ := t
  simp only at h
  rw [h]
theorem txt_back {s : ByteArray} {b : Nat} (hb : 2 ≤ b) (hb36 : b ≤ 36) (h : okText s b) : txt b (val b (digs s)) = s := by
  obtain ⟨h1, h2, h3⟩ := h
  have hall := digs_all h3
  have hl := digs_len s
  have hsl : s.data.toList.length = s.size := rfl
  have hb0 : ∀ j (hj : j < s.size), (s.data.toList[j]'(by rw [hsl]; exact hj)).toNat = byt s j := fun j hj => by
    have : j < s.data.size := hj
    unfold byt
    rw [Array.getElem?_eq_getElem this]
    simp
  by_cases h0 : byt s 0 = 48
  · have hs1 : s.size = 1 := by
      rcases Nat.lt_or_ge 1 s.size with h4 | h4
      · exact absurd ⟨h4, h0⟩ h2
      · omega
    have e : digs s = [0] := by
      refine eq_of_nth (by rw [hl, hs1]; rfl) fun i hi => ?_
      obtain rfl : i = 0 := by omega
      rw [nth_digs h1, hs1, h0]
      rfl
    rw [e]
    show txt b 0 = s
    rw [txt_zero]
    refine bytes_ext (List.ext_getElem (by rw [hsl, hs1]; rfl) fun i g1 g2 => ?_)
    obtain rfl : i = 0 := by rw [hsl] at g2; omega
    have := hb0 0 h1
    rw [h0] at this
    exact UInt8.toNat_inj.1 this.symm
  · have hn : Norm (digs s) := by
      refine strip_of_top (m := (digs s).length) (Nat.le_refl _) (fun j hj => nth_ge hj) (.inr ?_) |>.trans (List.take_length)
      rw [hl, nth_digs (by omega), show s.size - 1 - (s.size - 1) = 0 by omega]
      exact fun h4 => h0 (dgv_zero.1 h4)
    have e := norm_dg (b := b) (by omega) hall hn
    have hv0 : val b (digs s) ≠ 0 := fun h4 => by
      rw [h4, dg_zero (by omega)] at e
      rw [e] at hl
      simp at hl
      omega
    rw [txt_pos hv0, ← e]
    refine bytes_ext (List.ext_getElem (by simp [hl]) fun i g1 g2 => ?_)
    have hi : i < s.size := by rw [← hsl]; exact g2
    have hbi := hb0 i hi
    apply UInt8.toNat_inj.1
    rw [hbi]
    have hlt : (digs s).length - 1 - i < (digs s).length := by omega
    have e3 : (digs s)[(digs s).length - 1 - i] = dgv (byt s i) := by
      rw [← nth_lt hlt, nth_digs (by omega), hl, show s.size - 1 - (s.size - 1 - i) = i by omega]
    simp only [List.getElem_map, List.getElem_reverse, e3]
    have h5 := h3 i hi
    rw [sgn_toNat (by omega), sgn_dgv (by omega)]
end Go.Proofs.YtnmfmdilhepmjaaDoor
