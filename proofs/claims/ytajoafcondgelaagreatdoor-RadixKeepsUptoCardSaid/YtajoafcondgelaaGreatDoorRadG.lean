/-
  Texts of numbers: slices.Index on bytes, radix.value, radix.text, radix.number. Texts of numbers: radix.number, Format, Parse, FormatBase, ParseBase. radix.isBase, Format, Parse, FormatBase, ParseBase, Digits, FromDigits; surdlaw06.awake, plain. radix.Digits, FromDigits; surdref05.Same. Texts of numbers, in plain Lean: what is written is read again, what is read is written again. No program here.
-/
import Derived.Test.YtajoafcondgelaaGreatDoorUndig
import Derived.Test.YtajoafcondgelaaGreatDoorDigQ
import Derived.Laws.IdiomStrings
import Derived.BigQuiet
import Derived.Test.YtajoafcondgelaaGreatDoorFixed
namespace Go.Proofs.YtajoafcondgelaaGreatDoor
open Go.RowKit
set_option linter.unusedVariables false

/-- the type's row in the table: one cell of one byte -/
def Elem8 (P : Program) (T t : TypeId) : Prop :=
  P.underlying T = some (.slice t) ∧ (P.info? t).map (fun i => (i.zero, i.size, i.bytes)) = some (some (.int .u8 0), 1, 1)
theorem elY : Elem8 Tryz.prog 94 5 := ⟨Tryz.underlying94, by kernel_rfl⟩
theorem wpList_mk8 {P : Program} {T t : TypeId} {w : World} {ops : Array Oper} {rest : List Oper} {o : Oper} {a : Act} {Q : Exit → Act → World → Prop} (hg : o.guard = none) (l c : Operand) (hop : o.op = Op.makeSlice T l c) (he : Elem8 P T t)
    (B : Nat) (n : Nat) {kl kc : IntKind} {L C : Int} (hl : a.eval l = .int kl L) (hc : a.eval c = .int kc C) (hL : L = (n : Int)) (hC : C = (n : Int)) (hn : n ≤ 1099511627776) (hB : B ≤ w.heap.size)
    (hK : ∀ w', Own .u8 t B w' (some ⟨w.heap.size, 0, none⟩) n n (List.replicate n 0) → Below w.heap.size w w' → wpList P ops Q rest (a.put o.dst (.slice (some ⟨w.heap.size, 0, none⟩) n n)) w') :
    wpList P ops Q (o :: rest) a w := by
  obtain ⟨hT, hinfo⟩ := id he
  obtain ⟨i, hi, hr⟩ := Option.map_eq_some_iff.1 hinfo
  simp only [Prod.mk.injEq] at hr
  obtain ⟨hz, hs, hb⟩ := hr
  refine wpList_make_full w hg l c T hop B t i (.int .u8 0) 1 hT hi hz hs kl kc L C n hl hc hL hC (by rw [hb]; omega) (by simp only [maxLen]; omega) hB fun w' ho hgr => ?_
  refine hK w' ?_ ((Below.refl _ _).grown hgr (Nat.le_refl _) (fun k hk => by cases hk))
  unfold Own
  have e : (madeCells (Value.int .u8 0).cells (n * 1)).toList = (List.replicate n 0).map (iv .u8) := by
    rw [Nat.mul_one]
    have := toList_madeCells_one (Value.int .u8 0) n
    simp only [List.map_replicate]
    exact this
  rw [← e]
  exact ho

/-- the sign of a digit, the digit of a sign -/
def sgn (j : Nat) : Nat := if j < 10 then 48 + j else 87 + j
def dgv (c : Nat) : Nat := if 48 ≤ c ∧ c ≤ 57 then c - 48 else if 97 ≤ c ∧ c ≤ 122 then c - 87 else 36
theorem sgn_lt {j : Nat} (h : j < 36) : sgn j < 256 := by unfold sgn; split <;> omega
theorem dgv_sgn {j : Nat} (h : j < 36) : dgv (sgn j) = j := by
  unfold dgv sgn
  by_cases h1 : j < 10
  · rw [if_pos h1, if_pos (by omega)]; omega
  · rw [if_neg h1, if_neg (by omega), if_pos (by omega)]; omega
theorem sgn_dgv {c : Nat} (h : dgv c < 36) : sgn (dgv c) = c := by
  unfold dgv at *
  by_cases h1 : 48 ≤ c ∧ c ≤ 57
  · rw [if_pos h1]; unfold sgn; rw [if_pos (by omega)]; omega
  · rw [if_neg h1] at h ⊢
    by_cases h2 : 97 ≤ c ∧ c ≤ 122
    · rw [if_pos h2] at h ⊢; unfold sgn; rw [if_neg (by omega)]; omega
    · rw [if_neg h2] at h; omega
theorem sgn_ne {c j b : Nat} (h : ¬ dgv c < b) (hj : j < b) (hb : b ≤ 36) : sgn j ≠ c := fun e => h (by rw [← e, dgv_sgn (by omega)]; exact hj)

/-- the table of the signs lies -/
def SG (w : World) : Prop := (∀ j, j < 36 → w.cell? ⟨0, j, none⟩ = some (.int .u8 ((sgn j : Nat) : Int))) ∧ 0 < w.heap.size
theorem SG.below {w w' : World} (h : SG w) (hb : Below w.heap.size w w') : SG w' :=
  ⟨fun j hj => (hb.cell (p := ⟨0, j, none⟩) h.2).trans (h.1 j hj), Nat.lt_of_lt_of_le h.2 hb.size⟩

/-- the digit in a base; -1: none -/
def dgI (b c : Nat) : Int := if dgv c < b then (dgv c : Int) else -1
set_option maxHeartbeats 1000000 in
theorem index8_any {b c : Nat} {cap : Nat} {w : World} (hs : SG w) (hb : b ≤ 36) :
    Calls Tryz.prog 81 #[.slice (some ⟨0, 0, none⟩) b cap, .int .u8 (c : Int)] w fun e w' => e = .returned (.int .i64 (dgI b c)) ∧ w = w' := by
  have HS := Lib.hid hs
  clear hs
  go_enter Tryz.func81, Tryz.ntmps81
  go_wp2
  go_loop [8] (fun i => ∃ k : Nat, Hid (∀ j, j < k → sgn j ≠ c) ∧ k ≤ b ∧ i = .int .i64 (k : Int)) (fun i => b - (intOf i).toNat)
  case atStart => exact ⟨0, fun j hj => by omega, Nat.zero_le _, rfl⟩
  case round =>
    obtain ⟨k, hK, hk, rfl⟩ := hrel
    by_cases hlt : k < b
    · have hc := HS.out.1 k (by omega)
      have i1 : (0 : Int) ≤ (k : Int) := by omega
      have i2 : (k : Int) < (b : Int) := by omega
      by_cases he : sgn k = c
      · have q : ((c : Int) == ((sgn k : Nat) : Int)) = true := by rw [beq_iff_eq]; omega
        have HR : Hid (dgI b c = (k : Int)) := by
          show _ = _
          rw [dgI, ← he, dgv_sgn (by omega), if_pos hlt]
        clear he
        generalize sgn k = s at *
        go_wp2
        go_ret
        exact ⟨by rw [HR.out]; rfl, rfl⟩
      · have q : ((c : Int) == ((sgn k : Nat) : Int)) = false := by rw [beq_eq_false_iff_ne]; omega
        have HR : Hid (∀ j, j < k + 1 → sgn j ≠ c) := fun j hj => by
          by_cases hjk : j = k
          · rw [hjk]; exact he
          · exact hK.out j (by omega)
        clear he
        generalize sgn k = s at *
        go_wp2
        go_round
        case rel => exact ⟨k + 1, HR, by omega, by go_num⟩
        case measure => simp [intOf]; omega
    · have i3 : ¬ ((k : Int) < (b : Int)) := by omega
      have HR : Hid (dgI b c = -1) := by
        show _ = _
        rw [dgI, if_neg]
        intro h
        exact hK.out (dgv c) (by omega) (sgn_dgv (by omega))
      go_wp2
      go_ret
      exact ⟨by rw [HR.out]; rfl, rfl⟩
set_option maxHeartbeats 1000000 in
theorem rvalue_any {b c : Nat} {b' : Int} {w : World} (hs : SG w) (eb : b' = (b : Int)) (hb : b ≤ 36) :
    Calls Tryz.prog 55 #[.int .u8 (c : Int), .int .i64 b'] w fun e w' => e = .returned (.int .i64 (dgI b c)) ∧ w = w' := by
  subst eb
  have HS := Lib.hid hs
  have C := Lib.hid (fun cap => index8_any (c := c) (cap := cap) hs hb)
  have i1 : (0 : Int) ≤ (b : Int) := by omega
  have i2 : (b : Int) ≤ 36 := by omega
  clear hs
  go_enter Tryz.func55, Tryz.ntmps55
  go_wp2_with fail
  refine (C.out _).mono ?_
  rintro e w' ⟨rfl, rfl⟩
  go_wp2
  go_ret
  exact ⟨rfl, rfl⟩

/-- the text of a number -/
def txtl (b x : Nat) : List UInt8 := if x = 0 then [UInt8.ofNat (sgn 0)] else (dg b x).reverse.map fun d => UInt8.ofNat (sgn d)
def txt (b x : Nat) : ByteArray := ⟨(txtl b x).toArray⟩
/-- the first k signs lie, from behind -/
def TxtI (ds : List Nat) (k : Nat) (outs : List Nat) : Prop := outs.length = ds.length ∧ ∀ j, j < k → nth outs (ds.length - 1 - j) = sgn (nth ds j)
theorem TxtI.step {ds outs : List Nat} {k : Nat} (h : TxtI ds k outs) (hk : k < ds.length) : TxtI ds (k + 1) (outs.set (ds.length - 1 - k) (sgn (nth ds k))) := by
  refine ⟨by rw [List.length_set]; exact h.1, fun j hj => ?_⟩
  by_cases hjk : j = k
  · subst hjk
    rw [nth_set_eq (by rw [h.1]; omega)]
  · rw [nth_set_ne (by omega)]
    exact h.2 j (by omega)
theorem TxtI.done {ds outs : List Nat} (h : TxtI ds ds.length outs) : outs = ds.reverse.map sgn := by
  have hl : outs.length = (ds.reverse.map sgn).length := by rw [h.1, List.length_map, List.length_reverse]
  refine eq_of_nth hl fun i hi => ?_
  have hi' : i < ds.length := by rw [← h.1]; omega
  have := h.2 (ds.length - 1 - i) (by omega)
  rw [show ds.length - 1 - (ds.length - 1 - i) = i by omega] at this
  rw [this, nth_lt (xs := ds) (i := ds.length - 1 - i) (by omega), nth_lt (xs := ds.reverse.map sgn) (i := i) (by omega)]
  simp
theorem bytes_back {zs : List Nat} (h : All 256 zs) (j : Nat) (hj : j < (zs.map UInt8.ofNat).length) : (((zs.map UInt8.ofNat)[j]).toNat : Int) = ((nth zs j : Nat) : Int) := by
  have hj' : j < zs.length := by simpa using hj
  have hx := h.nth (by decide) j
  simp only [List.getElem_map]
  rw [nth_lt hj'] at *
  simp [UInt8.toNat_ofNat']
  omega
theorem conv_back {w : World} {g n c : Nat} {t : TypeId} {B : Nat} {zs : List Nat} (h : Own .u8 t B w (some ⟨g, 0, none⟩) n c zs) (ha : All 256 zs) :
    (convert 94 9 (.slice (some ⟨g, 0, none⟩) n c)).run Tryz.prog w = .ok (.string ⟨(zs.map UInt8.ofNat).toArray⟩) w := by
  have hl : (zs.map UInt8.ofNat).length = n := by rw [List.length_map, h.len]
  have hcv := run_convert_bytes_back (P := Tryz.prog) w 94 9 5 ⟨g, 0, none⟩ c (zs.map UInt8.ofNat) Tryz.underlying94 Tryz.underlying5 Tryz.underlying9 (fun j hj => by
    rw [addo, Nat.zero_add, bytes_back ha j hj]
    exact h.cell (by rw [hl] at hj; exact hj))
  rw [hl] at hcv
  exact hcv
theorem conv_zero {w : World} (hs : SG w) : (convert 94 9 (.slice (some ⟨0, 0, none⟩) 1 36)).run Tryz.prog w = .ok (.string ⟨#[48]⟩) w := by
  have hcv := run_convert_bytes_back (P := Tryz.prog) w 94 9 5 ⟨0, 0, none⟩ 36 [48] Tryz.underlying94 Tryz.underlying5 Tryz.underlying9 (fun j hj => by
    have : j = 0 := by simp at hj; omega
    subst this
    rw [addo]
    exact hs.1 0 (by omega))
  exact hcv
theorem dgb_zero {b x n : Nat} {k : IntKind} {t : TypeId} {B c : Nat} {w : World} {A : Option Addr} (hb : 1 < b) (h : Own k t B w A n c (dg b x)) : n = 0 ↔ x = 0 := by
  rw [← dg_nil_iff hb (x := x), ← List.length_eq_zero_iff, h.len]
set_option maxHeartbeats 1000000 in
theorem rtext_any {v : Value} {x L b : Nat} {b' : Int} {w : World} (h : Num w v x L) (hs : SG w) (eb : b' = (b : Int)) (hb : 2 ≤ b) (hb36 : b ≤ 36) (hL : L ≤ 16777216) :
    Calls Tryz.prog 30 #[v, .int .i64 b'] w (Keeps (.string (txt b x)) w) := by
  subst eb
  obtain ⟨_, _, _, _, rfl, _⟩ := id h
  have HS := Lib.hid hs
  have H := Lib.hid h
  have HE := Lib.hid elY
  have HX := Lib.hid h.lt
  have HA := Lib.hid (dg_all (b := b) (by omega) x)
  have HL := Lib.hid hL
  clear h hs hL
  go_enter Tryz.func30, Tryz.ntmps30
  go_wp2_with fail
  refine (ddigits_any (b := b) H.out rfl hb (by rw [W_eq]; omega) (by have := HL.out; omega)).mono ?_
  rintro e w1 ⟨A_d, n_d, c_d, rfl, o_d, hb1⟩
  have HO := Lib.hid o_d
  have hn : n_d ≤ 1073741824 := by
    have := dg_len64 (b := b) (by omega) HX.out
    rw [o_d.len] at this
    have := HL.out
    omega
  have HBd := Lib.hid hb1
  by_cases hx0 : x = 0
  · obtain rfl : n_d = 0 := (dgb_zero (by omega) o_d).2 hx0
    have CV := conv_zero (HS.out.below hb1)
    have HT : Hid (txt b x = ⟨#[48]⟩) := by show _ = _; rw [txt, txtl, if_pos hx0]; rfl
    clear o_d hb1 hx0
    go_wp2
    go_ret
    exact ⟨by rw [HT.out]; rfl, HBd.out⟩
  · have hn0 : 0 < n_d := by
      rcases Nat.eq_zero_or_pos n_d with e | e
      · exact absurd ((dgb_zero (by omega) o_d).1 e) hx0
      · exact e
    have hne : ((n_d : Int) == 0) = false := by rw [beq_eq_false_iff_ne]; omega
    have HX0 := Lib.hid hx0
    clear o_d hb1 hx0
    go_wp2_with (at_make; refine wpList_mk8 rfl (.tmp 23) (.tmp 23) rfl HE.out w1.heap.size n_d rfl rfl rfl rfl (by omega) (Nat.le_refl _) ?_; intro w2 ho2 hb2)
    have HI : Hid (Own .u8 5 w1.heap.size w2 (some ⟨w1.heap.size, 0, none⟩) n_d n_d (List.replicate n_d 0) ∧ Below w1.heap.size w1 w2) := ⟨ho2, hb2⟩
    clear ho2 hb2
    go_loopw [27] (fun iv wr => ∃ (k : Nat) (outs : List Nat), Hid (TxtI (dg b x) k outs ∧ Own .u8 5 w1.heap.size wr (some ⟨w1.heap.size, 0, none⟩) n_d n_d outs ∧ Below w1.heap.size w1 wr) ∧ k ≤ n_d ∧ iv = .int .i64 (k : Int)) (fun iv _ => n_d - (intOf iv).toNat)
    case atStart => exact ⟨0, _, ⟨⟨by rw [List.length_replicate, HO.out.len], fun j hj => by omega⟩, HI.out⟩, Nat.zero_le _, rfl⟩
    case round =>
      obtain ⟨k, outs, hI, hk, rfl⟩ := hrel
      by_cases hlt : k < n_d
      · obtain ⟨bb, off, ea, hbb, hca⟩ := (HO.out.rd.below hI.out.2.2).at hlt
        subst ea
        obtain ⟨M, hM⟩ : ∃ M, M = n_d - 1 - k := ⟨_, rfl⟩
        have em : (n_d : Int) - 1 - (k : Int) = (M : Int) := by omega
        have hd := HA.out.nth (by omega) k
        have hsg := ((HS.out.below HBd.out).below hI.out.2.2).1 (nth (dg b x) k) (by omega)
        have hcl := hI.out.2.1.cell (i := M) (by omega)
        have hfr := hI.out.2.1.frozen (i := M)
        have HN : Hid (TxtI (dg b x) (k + 1) (outs.set M (sgn (nth (dg b x) k)))) := by
          show TxtI _ _ _
          have := hI.out.1.step (by rw [HO.out.len]; exact hlt)
          rw [HO.out.len, ← hM] at this
          exact this
        have HST := Lib.hid (hI.out.2.1.stored (i := M) (x := sgn (nth (dg b x) k)))
        have hM2 : (M : Int) < (n_d : Int) := by omega
        have hM0 : (0 : Int) ≤ (M : Int) := by omega
        have hd2 : ((nth (dg b x) k : Nat) : Int) < 36 := by omega
        clear hM
        generalize sgn (nth (dg b x) k) = s at *
        generalize nth (dg b x) k = d at *
        go_wp2
        go_roundw
        case rel => exact ⟨k + 1, _, ⟨HN.out, HST.out, hI.out.2.2.setCell (Nat.le_refl _) _⟩, by omega, by go_num⟩
        case measure => simp [intOf]; omega
      · obtain rfl : k = n_d := by omega
        have HR : Hid (outs = (dg b x).reverse.map sgn) := by
          have := hI.out.1
          rw [← HO.out.len] at this
          exact this.done
        have h256 : All 256 outs := by
          rw [HR.out]
          intro y hy
          obtain ⟨z, hz, rfl⟩ := List.mem_map.1 hy
          exact sgn_lt (Nat.lt_of_lt_of_le (HA.out z (List.mem_reverse.1 hz)) hb36)
        have CV := conv_back hI.out.2.1 h256
        have HT : Hid (txt b x = ⟨(outs.map UInt8.ofNat).toArray⟩) := by
          show _ = _
          rw [txt, txtl, if_neg HX0.out, HR.out, List.map_map]
          rfl
        clear h256
        go_wp2
        go_ret
        exact ⟨by rw [HT.out]; rfl, bt HBd.out hI.out.2.2⟩
end Go.Proofs.YtajoafcondgelaaGreatDoor
namespace Go.Proofs.YtajoafcondgelaaGreatDoor
open Go.RowKit
set_option linter.unusedVariables false

def byt (s : ByteArray) (j : Nat) : Nat := ((s.data[j]?).getD 0).toNat
theorem byt_at (s : ByteArray) (k : Nat) (h : k < s.size) : s[k].toNat = byt s k := by
  have : k < s.data.size := h
  unfold byt
  simp only [Array.getElem?_eq_getElem this, Option.getD_some]; rfl
def digs (s : ByteArray) : List Nat := (List.range s.size).map fun i => dgv (byt s (s.size - 1 - i))
theorem nth_digs {s : ByteArray} {i : Nat} (h : i < s.size) : nth (digs s) i = dgv (byt s (s.size - 1 - i)) := by
  rw [nth_lt (by simp [digs, h])]; simp [digs]
theorem digs_len (s : ByteArray) : (digs s).length = s.size := by simp [digs]
def okText (s : ByteArray) (b : Nat) : Prop := 0 < s.size ∧ ¬ (1 < s.size ∧ byt s 0 = 48) ∧ ∀ k, k < s.size → dgv (byt s k) < b
/-- the first k digits lie, from behind -/
def DgsI (s : ByteArray) (b k : Nat) (outs : List Nat) : Prop := outs.length = s.size ∧ ∀ j, j < k → dgv (byt s j) < b ∧ nth outs (s.size - 1 - j) = dgv (byt s j)
theorem DgsI.step {s : ByteArray} {b k : Nat} {outs : List Nat} (h : DgsI s b k outs) (hk : k < s.size) (hd : dgv (byt s k) < b) : DgsI s b (k + 1) (outs.set (s.size - 1 - k) (dgv (byt s k))) := by
  refine ⟨by rw [List.length_set]; exact h.1, fun j hj => ?_⟩
  by_cases hjk : j = k
  · subst hjk
    exact ⟨hd, by rw [nth_set_eq (by rw [h.1]; omega)]⟩
  · rw [nth_set_ne (by omega)]
    exact h.2 j (by omega)
theorem DgsI.done {s : ByteArray} {b : Nat} {outs : List Nat} (h : DgsI s b s.size outs) : outs = digs s := by
  refine eq_of_nth (by rw [h.1, digs_len]) fun i hi => ?_
  rw [h.1] at hi
  have := (h.2 (s.size - 1 - i) (by omega)).2
  rw [show s.size - 1 - (s.size - 1 - i) = i by omega] at this
  rw [this, nth_digs hi]
theorem digs_all {s : ByteArray} {b : Nat} (h : ∀ k, k < s.size → dgv (byt s k) < b) : All b (digs s) := by
  intro y hy
  obtain ⟨i, hi, rfl⟩ := List.mem_map.1 hy
  exact h _ (by have := List.mem_range.1 hi; omega)
/-- what radix.number gives -/
def NumP (w : World) (s : ByteArray) (b : Nat) (e : Ending) (w' : World) : Prop :=
  (okText s b ∧ GNE w (val b (digs s)) s.size 0 e w') ∨ (¬ okText s b ∧ Keeps (.tuple #[.slice none 0 0, .int .i64 5]) w e w')
theorem empty_of {s : ByteArray} (h : s.size = 0) : s = ByteArray.empty := by
  obtain ⟨⟨l⟩⟩ := s
  have : l = [] := List.eq_nil_of_length_eq_zero h
  subst this; rfl
theorem ne_of {s : ByteArray} (h : 0 < s.size) : s.toList.isEmpty = false := by
  rw [ByteArray.toList_eq]
  cases hl : s.data.toList with
  | nil => have : s.data.toList.length = s.size := rfl; rw [hl] at this; simp at this; omega
  | cons => rfl
set_option maxHeartbeats 2000000 in
set_option maxRecDepth 100000 in
theorem rnumber_any {s : ByteArray} {b : Nat} {b' : Int} {w : World} (hs : SG w) (eb : b' = (b : Int)) (hb : 2 ≤ b) (hb36 : b ≤ 36) (hsz : s.size ≤ 1073741824) :
    Calls Tryz.prog 29 #[.string s, .int .i64 b'] w (NumP w s b) := by
  subst eb
  have HS := Lib.hid hs
  have HE := Lib.hid elW
  have HZ := Lib.hid hs.2
  have hz : w.cell? ⟨0, 0, none⟩ = some (.int .u8 48) := hs.1 0 (by omega)
  clear hs
  by_cases h0 : s.size = 0
  · obtain rfl := empty_of h0
    have HB : Hid (¬ okText ByteArray.empty b) := fun h => absurd h.1 (by decide)
    clear h0 hsz
    go_enter Tryz.func29, Tryz.ntmps29
    go_wp2_with fail
    go_quiet (fail)
    go_wp2
    go_ret2
    exact .inr ⟨HB.out, rfl, below_drewN _ _⟩
  · have h1 := ne_of (s := s) (by omega)
    have h2 : ((s.size : Int) == 0) = false := by rw [beq_eq_false_iff_ne]; omega
    by_cases h3 : 1 < s.size
    · have d1 : decide ((1 : Int) < (s.size : Int)) = true := by simp; omega
      have h4 := byt_at s 0 (by omega)
      have h5 : 0 < s.size := by omega
      by_cases h6 : byt s 0 = 48
      · have HB : Hid (¬ okText s b) := fun h => h.2.1 ⟨h3, h6⟩
        have q : (((s[0].toNat : Nat) : Int) == 48) = true := by rw [h4, h6]; rfl
        clear h4 h6
        go_enter Tryz.func29, Tryz.ntmps29
        go_wp2_with fail
        go_quiet (fail)
        go_wp2
        go_ret2
        exact .inr ⟨HB.out, rfl, below_drewN _ _⟩
      · have HOK : Hid ((∀ k, k < s.size → dgv (byt s k) < b) → okText s b) := fun h => ⟨by omega, fun h7 => h6 h7.2, h⟩
        have q : (((s[0].toNat : Nat) : Int) == 48) = false := by rw [h4, beq_eq_false_iff_ne]; omega
        clear h4 h6
        go_enter Tryz.func29, Tryz.ntmps29
        go_wp2_with fail
        go_quiet (fail)
        go_wp2_with (at_make; refine wpList_mk rfl (.tmp 24) (.tmp 24) rfl HE.out w.heap.size s.size rfl rfl rfl rfl (by omega) (by simp) ?_; intro w2 ho2 hg2 hb2)
        have HI : Hid (Own .u64 28 w.heap.size w2 (some ⟨w.heap.size, 0, none⟩) s.size s.size (List.replicate s.size 0) ∧ Below w.heap.size w w2) := ⟨ho2, (below_drewN w nq).trans hb2⟩
        clear ho2 hb2 hg2
        go_loopw [28] (fun iv wr => ∃ (k : Nat) (outs : List Nat), Hid (DgsI s b k outs ∧ Own .u64 28 w.heap.size wr (some ⟨w.heap.size, 0, none⟩) s.size s.size outs ∧ Below w.heap.size w wr) ∧ k ≤ s.size ∧ iv = .int .i64 (k : Int)) (fun iv _ => s.size - (intOf iv).toNat)
        case atStart => exact ⟨0, _, ⟨⟨List.length_replicate, fun j hj => by omega⟩, HI.out⟩, Nat.zero_le _, rfl⟩
        case round =>
          obtain ⟨k, outs, hI, hk, rfl⟩ := hrel
          by_cases hlt : k < s.size
          · have i1 : (0 : Int) ≤ (k : Int) := by omega
            have i2 : (k : Int) < (s.size : Int) := by omega
            have CV := Lib.hid (rvalue_any (b := b) (b' := (b : Int)) (c := byt s k) (HS.out.below hI.out.2.2) rfl hb36)
            have hat := byt_at s k hlt
            have HAT : Hid (s[k].toNat = byt s k) := hat
            by_cases hd : dgv (byt s k) < b
            · have HD : Hid (dgI b (byt s k) = ((dgv (byt s k) : Nat) : Int)) := by show _ = _; rw [dgI, if_pos hd]
              rw [HD.out] at CV
              obtain ⟨M, hM⟩ : ∃ M, M = s.size - 1 - k := ⟨_, rfl⟩
              have em : (s.size : Int) - 1 - (k : Int) = (M : Int) := by omega
              have hcl := hI.out.2.1.cell (i := M) (by omega)
              have hfr := hI.out.2.1.frozen (i := M)
              have hM2 : (M : Int) < (s.size : Int) := by omega
              have hM0 : (0 : Int) ≤ (M : Int) := by omega
              have HN : Hid (DgsI s b (k + 1) (outs.set M (dgv (byt s k)))) := by
                show DgsI _ _ _ _
                have := hI.out.1.step hlt hd
                rw [← hM] at this
                exact this
              have HST := Lib.hid (hI.out.2.1.stored (i := M) (x := dgv (byt s k)))
              have hd2 : (dgv (byt s k) : Int) < 36 := by omega
              clear hM hat hd HD
              generalize dgv (byt s k) = d at *
              go_wp2_with (first | rw [hat] | (go_at_call 55; rw [HAT.out]; refine CV.out.mono ?_; rintro e w' ⟨rfl, rfl⟩))
              go_roundw
              case rel => exact ⟨k + 1, _, ⟨HN.out, HST.out, hI.out.2.2.setCell (Nat.le_refl _) _⟩, by omega, by go_num⟩
              case measure => simp [intOf]; omega
            · have HD : Hid (dgI b (byt s k) = -1) := by show _ = _; rw [dgI, if_neg hd]
              rw [HD.out] at CV
              have HB : Hid (¬ okText s b) := fun h => hd (h.2.2 k hlt)
              clear hd HD hat
              go_wp2_with (go_at_call 55; rw [HAT.out]; refine CV.out.mono ?_; rintro e w' ⟨rfl, rfl⟩)
              go_ret2
              exact .inr ⟨HB.out, rfl, hI.out.2.2⟩
          · obtain rfl : k = s.size := by omega
            have HG : Hid (okText s b) := HOK.out fun k hk => (hI.out.1.2 k hk).1
            have HR : Hid (outs = digs s) := hI.out.1.done
            have C := Lib.hid (undigits_any (b := b) hI.out.2.1.rd (by rw [HR.out]; exact digs_all HG.out.2.2) hb (by rw [W_eq]; omega) hsz)
            rw [HR.out] at C
            go_wp2_with fail
            refine C.out.mono ?_
            rintro e w3 ⟨A3, n3, c3, rfl, ho3, hb3, hl3⟩
            have HF : Hid (Own .u64 28 w.heap.size w3 A3 n3 c3 (dg W (val b (digs s))) ∧ Below w.heap.size w w3) := ⟨ho3.mono hI.out.2.2.size, bt hI.out.2.2 hb3⟩
            clear ho3 hb3
            go_wp2
            go_ret2
            exact .inl ⟨HG.out, _, _, _, rfl, HF.out.1, HF.out.2, hl3⟩
    · have d1 : decide ((1 : Int) < (s.size : Int)) = false := by simp; omega
      have HOK : Hid ((∀ k, k < s.size → dgv (byt s k) < b) → okText s b) := fun h => ⟨by omega, fun h7 => h3 h7.1, h⟩
      go_enter Tryz.func29, Tryz.ntmps29
      go_wp2_with fail
      go_quiet (fail)
      go_wp2_with (at_make; refine wpList_mk rfl (.tmp 24) (.tmp 24) rfl HE.out w.heap.size s.size rfl rfl rfl rfl (by omega) (by simp) ?_; intro w2 ho2 hg2 hb2)
      have HI : Hid (Own .u64 28 w.heap.size w2 (some ⟨w.heap.size, 0, none⟩) s.size s.size (List.replicate s.size 0) ∧ Below w.heap.size w w2) := ⟨ho2, (below_drewN w nq).trans hb2⟩
      clear ho2 hb2 hg2
      go_loopw [28] (fun iv wr => ∃ (k : Nat) (outs : List Nat), Hid (DgsI s b k outs ∧ Own .u64 28 w.heap.size wr (some ⟨w.heap.size, 0, none⟩) s.size s.size outs ∧ Below w.heap.size w wr) ∧ k ≤ s.size ∧ iv = .int .i64 (k : Int)) (fun iv _ => s.size - (intOf iv).toNat)
      case atStart => exact ⟨0, _, ⟨⟨List.length_replicate, fun j hj => by omega⟩, HI.out⟩, Nat.zero_le _, rfl⟩
      case round =>
        obtain ⟨k, outs, hI, hk, rfl⟩ := hrel
        by_cases hlt : k < s.size
        · have i1 : (0 : Int) ≤ (k : Int) := by omega
          have i2 : (k : Int) < (s.size : Int) := by omega
          have CV := Lib.hid (rvalue_any (b := b) (b' := (b : Int)) (c := byt s k) (HS.out.below hI.out.2.2) rfl hb36)
          have hat := byt_at s k hlt
          have HAT : Hid (s[k].toNat = byt s k) := hat
          by_cases hd : dgv (byt s k) < b
          · have HD : Hid (dgI b (byt s k) = ((dgv (byt s k) : Nat) : Int)) := by show _ = _; rw [dgI, if_pos hd]
            rw [HD.out] at CV
            obtain ⟨M, hM⟩ : ∃ M, M = s.size - 1 - k := ⟨_, rfl⟩
            have em : (s.size : Int) - 1 - (k : Int) = (M : Int) := by omega
            have hcl := hI.out.2.1.cell (i := M) (by omega)
            have hfr := hI.out.2.1.frozen (i := M)
            have hM2 : (M : Int) < (s.size : Int) := by omega
            have hM0 : (0 : Int) ≤ (M : Int) := by omega
            have HN : Hid (DgsI s b (k + 1) (outs.set M (dgv (byt s k)))) := by
              show DgsI _ _ _ _
              have := hI.out.1.step hlt hd
              rw [← hM] at this
              exact this
            have HST := Lib.hid (hI.out.2.1.stored (i := M) (x := dgv (byt s k)))
            have hd2 : (dgv (byt s k) : Int) < 36 := by omega
            clear hM hat hd HD
            generalize dgv (byt s k) = d at *
            go_wp2_with (first | rw [hat] | (go_at_call 55; rw [HAT.out]; refine CV.out.mono ?_; rintro e w' ⟨rfl, rfl⟩))
            go_roundw
            case rel => exact ⟨k + 1, _, ⟨HN.out, HST.out, hI.out.2.2.setCell (Nat.le_refl _) _⟩, by omega, by go_num⟩
            case measure => simp [intOf]; omega
          · have HD : Hid (dgI b (byt s k) = -1) := by show _ = _; rw [dgI, if_neg hd]
            rw [HD.out] at CV
            have HB : Hid (¬ okText s b) := fun h => hd (h.2.2 k hlt)
            clear hd HD hat
            go_wp2_with (go_at_call 55; rw [HAT.out]; refine CV.out.mono ?_; rintro e w' ⟨rfl, rfl⟩)
            go_ret2
            exact .inr ⟨HB.out, rfl, hI.out.2.2⟩
        · obtain rfl : k = s.size := by omega
          have HG : Hid (okText s b) := HOK.out fun k hk => (hI.out.1.2 k hk).1
          have HR : Hid (outs = digs s) := hI.out.1.done
          have C := Lib.hid (undigits_any (b := b) hI.out.2.1.rd (by rw [HR.out]; exact digs_all HG.out.2.2) hb (by rw [W_eq]; omega) hsz)
          rw [HR.out] at C
          go_wp2_with fail
          refine C.out.mono ?_
          rintro e w3 ⟨A3, n3, c3, rfl, ho3, hb3, hl3⟩
          have HF : Hid (Own .u64 28 w.heap.size w3 A3 n3 c3 (dg W (val b (digs s))) ∧ Below w.heap.size w w3) := ⟨ho3.mono hI.out.2.2.size, bt hI.out.2.2 hb3⟩
          clear ho3 hb3
          go_wp2
          go_ret2
          exact .inl ⟨HG.out, _, _, _, rfl, HF.out.1, HF.out.2, hl3⟩
end Go.Proofs.YtajoafcondgelaaGreatDoor
namespace Go.Proofs.YtajoafcondgelaaGreatDoor
open Go.RowKit
set_option linter.unusedVariables false

theorem isBase_yes {b : Int} {w : World} (h : 2 ≤ b ∧ b ≤ 36) : Calls Tryz.prog 25 #[.int .i64 b] w (fun e w' => e = .returned (.bool true) ∧ w = w') := by
  obtain ⟨h1, h2⟩ := h
  go_enter Tryz.func25, Tryz.ntmps25
  go_wp2
  go_ret
  exact ⟨by simp, rfl⟩
theorem isBase_no {b : Int} {w : World} (h : b < 2 ∨ 36 < b) : Calls Tryz.prog 25 #[.int .i64 b] w (fun e w' => e = .returned (.bool false) ∧ w = w') := by
  by_cases h1 : b < 2
  · have d1 : decide (2 ≤ b) = false := by simp; omega
    clear h
    go_enter Tryz.func25, Tryz.ntmps25
    go_wp2
    go_ret
    exact ⟨by simp, rfl⟩
  · have d1 : decide (2 ≤ b) = true := by simp; omega
    have d2 : decide (b ≤ 36) = false := by simp; omega
    clear h
    go_enter Tryz.func25, Tryz.ntmps25
    go_wp2
    go_ret
    exact ⟨by simp, rfl⟩
set_option maxHeartbeats 400000 in
theorem rformat_any {v : Value} {x L : Nat} {w : World} (h : Num w v x L) (hs : SG w) (hL : L ≤ 16777216) : Calls Tryz.prog 12 #[v] w (Keeps (.string (txt 10 x)) w) := by
  obtain ⟨_, _, _, _, rfl, _⟩ := id h
  have C := Lib.hid (rtext_any (b := 10) (b' := 10) h hs rfl (by omega) (by omega) hL)
  clear h hs
  go_enter Tryz.func12, Tryz.ntmps12
  go_wp2_with fail
  refine C.out.mono ?_
  rintro e w1 ⟨rfl, hb⟩
  go_wp2
  go_ret
  exact ⟨rfl, hb⟩
set_option maxHeartbeats 400000 in
theorem rparse_any {s : ByteArray} {w : World} (hs : SG w) (hsz : s.size ≤ 1073741824) : Calls Tryz.prog 11 #[.string s] w (NumP w s 10) := by
  have C := Lib.hid (rnumber_any (b := 10) (b' := 10) (s := s) hs rfl (by omega) (by omega) hsz)
  clear hs
  go_enter Tryz.func11, Tryz.ntmps11
  go_wp2_with fail
  refine C.out.mono ?_
  rintro e w1 (⟨hg, A, n, c, rfl, ho, hb, hl⟩ | ⟨hg, rfl, hb⟩)
  · have HF := Lib.hid (And.intro hg (And.intro ho hb))
    clear hg ho hb
    go_wp2
    go_ret2
    exact .inl ⟨HF.out.1, _, _, _, rfl, HF.out.2.1, HF.out.2.2, hl⟩
  · have HF := Lib.hid (And.intro hg hb)
    clear hg hb
    go_wp2
    go_ret2
    exact .inr ⟨HF.out.1, rfl, HF.out.2⟩
set_option maxHeartbeats 400000 in
theorem rformatBase_any {v : Value} {x L b : Nat} {b' : Int} {w : World} (h : Num w v x L) (hs : SG w) (eb : b' = (b : Int)) (hb : 2 ≤ b) (hb36 : b ≤ 36) (hL : L ≤ 16777216) :
    Calls Tryz.prog 13 #[v, .int .i64 b'] w (Keeps (.tuple #[.string (txt b x), .int .i64 0]) w) := by
  obtain ⟨_, _, _, _, rfl, _⟩ := id h
  have C := Lib.hid (rtext_any (b := b) h hs eb hb hb36 hL)
  have CB := Lib.hid (isBase_yes (b := b') (w := w) (by omega))
  clear h hs eb
  go_enter Tryz.func13, Tryz.ntmps13
  go_wp2_with fail
  refine (CB.out).mono ?_
  rintro e w' ⟨rfl, rfl⟩
  go_wp2_with fail
  refine C.out.mono ?_
  rintro e w1 ⟨rfl, hb⟩
  go_wp2
  go_ret2
  exact ⟨rfl, hb⟩
set_option maxHeartbeats 400000 in
theorem rformatBase_bad {v : Value} {b' : Int} {w : World} (hb : b' < 2 ∨ 36 < b') :
    Calls Tryz.prog 13 #[v, .int .i64 b'] w (Keeps (.tuple #[.string ByteArray.empty, .int .i64 3]) w) := by
  have CB := Lib.hid (isBase_no (b := b') (w := w) hb)
  clear hb
  go_enter Tryz.func13, Tryz.ntmps13
  go_wp2_with fail
  refine (CB.out).mono ?_
  rintro e w' ⟨rfl, rfl⟩
  go_wp2
  go_ret2
  exact ⟨rfl, Below.refl _ _⟩
theorem txt_ff : txt 16 255 = ⟨#[102, 102]⟩ := by
  have e : dg 16 255 = [15, 15] := by
    have := norm_dg (b := 16) (xs := [15, 15]) (by omega) (by simp [All]) (by simp [Norm, strip])
    rw [this]
    simp [val]
  rw [txt, txtl, if_neg (by omega), e]
  rfl
theorem txt_255 : txt 10 255 = ⟨#[50, 53, 53]⟩ := by
  have e : dg 10 255 = [5, 5, 2] := by
    have := norm_dg (b := 10) (xs := [5, 5, 2]) (by omega) (by simp [All]) (by simp [Norm, strip])
    rw [this]
    simp [val]
  rw [txt, txtl, if_neg (by omega), e]
  rfl
theorem num255 {w : World} : Num (w.alloc (.cells #[.int .u64 255] 28)) (.slice (some ⟨w.heap.size, 0, none⟩) 1 1) 255 1 :=
  ⟨_, _, _, [255], rfl, Rd.lit1 w 255, All.cons (by rw [W_eq]; omega) All.nil, by simp [val], Nat.le_refl _⟩
set_option maxHeartbeats 400000 in
theorem awake6_any {w : World} (hs : SG w) : Calls Tryz.prog 4 #[] w (Keeps (.bool true) w) := by
  have HS := Lib.hid hs
  have C1 := Lib.hid (rformatBase_any (b := 16) (b' := 16) (num255 (w := w)) (hs.below ((Below.refl _ _).alloc (Nat.le_refl _) _)) rfl (by omega) (by omega) (by omega))
  rw [txt_ff] at C1
  clear hs
  go_enter Tryz.func4, Tryz.ntmps4
  go_wp2_with fail
  refine C1.out.mono ?_
  rintro e w1 ⟨rfl, hb1⟩
  have HB1 : Hid (Below w.heap.size w w1) := bt (belowA _ _) hb1
  have C2 := Lib.hid (rformat_any (num255 (w := w1)) ((HS.out.below HB1.out).below ((Below.refl _ _).alloc (Nat.le_refl _) _)) (by omega))
  rw [txt_255] at C2
  clear hb1
  go_wp2_with fail
  refine C2.out.mono ?_
  rintro e w2 ⟨rfl, hb2⟩
  have HB2 : Hid (Below w.heap.size w w2) := bt HB1.out (bt (belowA _ _) hb2)
  clear hb2
  go_wp2
  go_ret
  exact ⟨rfl, HB2.out⟩
end Go.Proofs.YtajoafcondgelaaGreatDoor
namespace Go.Proofs.YtajoafcondgelaaGreatDoor
open Go.RowKit
set_option linter.unusedVariables false

/-- new digits in a base -/
def GDI (w : World) (b x : Nat) (e : Ending) (w' : World) : Prop :=
  ∃ A n c, e = .returned (.tuple #[.slice A n c, .int .i64 0]) ∧ Own .i64 3 w.heap.size w' A n c (dg b x) ∧ Below w.heap.size w w'
theorem take_nth {xs : List Nat} {k : Nat} (h : k < xs.length) : xs.take (k + 1) = xs.take k ++ [nth xs k] := by
  rw [List.take_succ_eq_append_getElem h, nth_lt h]
set_option maxHeartbeats 1000000 in
theorem rdigits_any {v : Value} {x L b : Nat} {b' : Int} {w : World} (h : Num w v x L) (eb : b' = (b : Int)) (hb : 2 ≤ b) (hb36 : b ≤ 36) (hL : L ≤ 16777216) :
    Calls Tryz.prog 8 #[v, .int .i64 b'] w (GDI w b x) := by
  subst eb
  obtain ⟨_, _, _, _, rfl, _⟩ := id h
  have H := Lib.hid h
  have HE := Lib.hid elI
  have HX := Lib.hid h.lt
  have HA := Lib.hid (dg_all (b := b) (by omega) x)
  have HL := Lib.hid hL
  have CB := Lib.hid (isBase_yes (b := (b : Int)) (w := w) (by omega))
  clear h hL
  go_enter Tryz.func8, Tryz.ntmps8
  go_wp2_with fail
  refine (CB.out).mono ?_
  rintro e w' ⟨rfl, rfl⟩
  go_wp2_with fail
  refine (ddigits_any (b := b) H.out rfl hb (by rw [W_eq]; omega) (by have := HL.out; omega)).mono ?_
  rintro e w2 ⟨A_d, n_d, c_d, rfl, o_d, hb2⟩
  have HO := Lib.hid o_d
  have hn : n_d ≤ 1073741824 := by
    have := dg_len64 (b := b) (by omega) HX.out
    rw [o_d.len] at this
    have := HL.out
    omega
  have HBd := Lib.hid hb2
  obtain ⟨w1, hw1⟩ : ∃ w1, w1 = w2 := ⟨_, rfl⟩
  rw [← hw1] at HO HBd ⊢
  clear hw1 o_d
  go_wp2
  go_loopw [8, 23] (fun dv iv wr => ∃ (k : Nat) (B : Option Addr) (m e : Nat), Hid (Own .i64 3 w1.heap.size wr B m e ((dg b x).take k) ∧ Below w1.heap.size w1 wr) ∧ k ≤ n_d ∧ dv = .slice B m e ∧ iv = .int .i64 (k : Int)) (fun _ iv _ => n_d - (intOf iv).toNat)
  case atStart => exact ⟨0, none, 0, 0, ⟨Own.nil, Below.refl _ _⟩, Nat.zero_le _, rfl, rfl⟩
  case round =>
    obtain ⟨k, B, m, e, hI, hk, rfl, rfl⟩ := hrel
    by_cases hlt : k < n_d
    · obtain ⟨bb, off, ea, hbb, hca⟩ := (HO.out.rd.below hI.out.2).at hlt
      subst ea
      have i1 : (0 : Int) ≤ (k : Int) := by omega
      have i2 : (k : Int) < (n_d : Int) := by omega
      have hd := HA.out.nth (by omega) k
      have hd2 : ((nth (dg b x) k : Nat) : Int) < 36 := by omega
      have hd0 : (0 : Int) ≤ ((nth (dg b x) k : Nat) : Int) := by omega
      have hsz : Hid (m ≤ 1073741824) := by
        show _ ≤ _
        have := hI.out.1.len
        rw [List.length_take, HO.out.len] at this
        omega
      have HT : Hid ((dg b x).take (k + 1) = (dg b x).take k ++ [nth (dg b x) k]) := take_nth (by rw [HO.out.len]; exact hlt)
      clear hd
      generalize nth (dg b x) k = d at *
      go_wp2_with (at_builtin; (refine wpList_app rfl (.tmp 27) (.tmp 30) rfl HE.out (t := 3) (k := .i64) (B := w1.heap.size) (ys := [d]) rfl rfl (hI.out.1.alloc _) (Rd.lit1 wr _) (by have := hsz.out; omega) (by have := hI.out.2.size; simp; omega) ?_); intro B1 e1 w3 ho3 hb3 _ _)
      go_roundw
      case rel => exact ⟨k + 1, _, _, _, ⟨by rw [HT.out]; exact ho3, (hI.out.2.alloc hI.out.2.size _).trans hb3⟩, by omega, rfl, by go_num⟩
      case measure => simp [intOf]; omega
    · obtain rfl : k = n_d := by omega
      have HF : Hid (Own .i64 3 w.heap.size wr B m e (dg b x) ∧ Below w.heap.size w wr) := by
        have h1 := hI.out.1
        rw [List.take_of_length_le (by rw [HO.out.len]; exact Nat.le_refl _)] at h1
        exact ⟨h1.mono HBd.out.size, bt HBd.out hI.out.2⟩
      clear hI
      go_wp2
      go_ret2
      exact ⟨_, _, _, rfl, HF.out⟩
def zth (zs : List Int) (k : Nat) : Int := zs.getD k 0
/-- a slice of ints reads as a list -/
def Rdz (w : World) (A : Option Addr) (n c : Nat) (zs : List Int) : Prop :=
  (zs.length = n ∧ n ≤ c) ∧ (0 < n → ∃ b off, A = some ⟨b, off, none⟩ ∧ b < w.heap.size ∧ ∀ i, i < n → w.cell? ⟨b, off + i, none⟩ = some (.int .i64 (zth zs i)))
theorem Rd.ints {w : World} {A : Option Addr} {n c : Nat} {xs : List Nat} (h : Rd .i64 w A n c xs) : Rdz w A n c (xs.map fun (x : Nat) => (x : Int)) :=
  ⟨⟨by rw [List.length_map]; exact h.len, h.cap⟩, fun h0 => by
    obtain ⟨b, off, e, hb, hc⟩ := h.2 h0
    refine ⟨b, off, e, hb, fun i hi => ?_⟩
    rw [hc i hi, nth_lt (by rw [h.len]; exact hi), zth, List.getD_eq_getElem?_getD, List.getElem?_map, List.getElem?_eq_getElem (by rw [h.len]; exact hi)]
    rfl⟩
theorem Rdz.below {w w' : World} {A : Option Addr} {n c : Nat} {zs : List Int} (h : Rdz w A n c zs) (hb : Below w.heap.size w w') : Rdz w' A n c zs :=
  ⟨h.1, fun h0 => by
    obtain ⟨b, off, e, h1, hc⟩ := h.2 h0
    exact ⟨b, off, e, Nat.lt_of_lt_of_le h1 hb.size, fun i hi => (hb.cell (p := ⟨b, off + i, none⟩) h1).trans (hc i hi)⟩⟩
def toN (zs : List Int) : List Nat := zs.map Int.toNat
theorem toN_nats (xs : List Nat) : toN (xs.map fun (x : Nat) => (x : Int)) = xs := by
  unfold toN
  rw [List.map_map]
  conv => rhs; rw [← List.map_id xs]
  exact List.map_congr_left fun x _ => by simp
def okDigs (zs : List Int) (b : Nat) : Prop := ∀ i, i < zs.length → 0 ≤ zth zs i ∧ zth zs i < (b : Int)
theorem okDigs_nats {xs : List Nat} {b : Nat} (h : All b xs) : okDigs (xs.map fun (x : Nat) => (x : Int)) b := fun i hi => by
  rw [List.length_map] at hi
  have := h xs[i] (List.getElem_mem hi)
  rw [zth, List.getD_eq_getElem?_getD, List.getElem?_map, List.getElem?_eq_getElem hi]
  simp
  omega
theorem okDigs_all {zs : List Int} {b : Nat} (h : okDigs zs b) : All b (toN zs) := by
  intro y hy
  obtain ⟨z, hz, rfl⟩ := List.mem_map.1 hy
  obtain ⟨i, hi, rfl⟩ := List.mem_iff_getElem.1 hz
  have := h i hi
  rw [zth, List.getD_eq_getElem?_getD, List.getElem?_eq_getElem hi] at this
  simp at this
  omega
theorem nth_toN {zs : List Int} {k : Nat} (h : k < zs.length) : nth (toN zs) k = (zth zs k).toNat := by
  rw [nth_lt (by simpa [toN] using h)]
  simp [toN, zth, h]
def FrP (w : World) (zs : List Int) (b n : Nat) (e : Ending) (w' : World) : Prop :=
  (okDigs zs b ∧ GNE w (val b (toN zs)) n 0 e w') ∨ (¬ okDigs zs b ∧ Keeps (.tuple #[.slice none 0 0, .int .i64 3]) w e w')
set_option maxHeartbeats 1000000 in
theorem rfromDigits_bad {v : Value} {b' : Int} {w : World} (hb : b' < 2 ∨ 36 < b') :
    Calls Tryz.prog 9 #[v, .int .i64 b'] w (Keeps (.tuple #[.slice none 0 0, .int .i64 3]) w) := by
  have CB := Lib.hid (isBase_no (b := b') (w := w) hb)
  clear hb
  go_enter Tryz.func9, Tryz.ntmps9
  go_wp2_with fail
  refine (CB.out).mono ?_
  rintro e w' ⟨rfl, rfl⟩
  go_wp2
  go_ret2
  exact ⟨rfl, Below.refl _ _⟩
set_option maxHeartbeats 1000000 in
theorem rfromDigits_any {A : Option Addr} {n c b : Nat} {b' : Int} {zs : List Int} {w : World} (h : Rdz w A n c zs) (eb : b' = (b : Int)) (hb : 2 ≤ b) (hb36 : b ≤ 36) (hn : n ≤ 1073741824) :
    Calls Tryz.prog 9 #[.slice A n c, .int .i64 b'] w (FrP w zs b n) := by
  subst eb
  have H := Lib.hid h
  have HE := Lib.hid elW
  have CB := Lib.hid (isBase_yes (b := (b : Int)) (w := w) (by omega))
  clear h
  go_enter Tryz.func9, Tryz.ntmps9
  go_wp2_with fail
  refine (CB.out).mono ?_
  rintro e w' ⟨rfl, rfl⟩
  go_wp2
  go_loopw [6, 14] (fun dv iv wr => ∃ (k : Nat) (B : Option Addr) (m e : Nat), Hid (Own .u64 28 w.heap.size wr B m e ((toN zs).take k) ∧ Below w.heap.size w wr ∧ ∀ j, j < k → 0 ≤ zth zs j ∧ zth zs j < (b : Int)) ∧ k ≤ n ∧ dv = .slice B m e ∧ iv = .int .i64 (k : Int)) (fun _ iv _ => n - (intOf iv).toNat)
  case atStart => exact ⟨0, none, 0, 0, ⟨Own.nil, Below.refl _ _, fun j hj => by omega⟩, Nat.zero_le _, rfl, rfl⟩
  case round =>
    obtain ⟨k, B, m, e, hI, hk, rfl, rfl⟩ := hrel
    by_cases hlt : k < n
    · obtain ⟨bb, off, ea, hbb, hca⟩ := (H.out.below hI.out.2.1).2 (by omega)
      subst ea
      have hcb := hca k hlt
      clear hca
      have i1 : (0 : Int) ≤ (k : Int) := by omega
      have i2 : (k : Int) < (n : Int) := by omega
      by_cases hz : 0 ≤ zth zs k ∧ zth zs k < (b : Int)
      · have hsz : Hid (m ≤ 1073741824) := by
          show _ ≤ _
          have := hI.out.1.len
          simp only [List.length_take, toN, List.length_map, H.out.1.1] at this
          omega
        obtain ⟨d, hd⟩ : ∃ d : Nat, zth zs k = (d : Int) := ⟨(zth zs k).toNat, by omega⟩
        have HT : Hid ((toN zs).take (k + 1) = (toN zs).take k ++ [d]) := by
          show _ = _
          rw [take_nth (by simp [toN, H.out.1.1]; exact hlt), nth_toN (by rw [H.out.1.1]; exact hlt), hd]
          simp
        have HZ : Hid (∀ j, j < k + 1 → 0 ≤ zth zs j ∧ zth zs j < (b : Int)) := fun j hj => by
          by_cases hjk : j = k
          · rw [hjk]; exact hz
          · exact hI.out.2.2 j (by omega)
        rw [hd] at hcb hz
        obtain ⟨hz1, hz2⟩ := hz
        have q1 : decide ((d : Int) < 0) = false := by simp
        have q2 : decide ((b : Int) ≤ (d : Int)) = false := by simp; omega
        have hd2 : (d : Int) < 36 := by omega
        clear hd
        go_wp2_with (at_builtin; (refine wpList_app rfl (.tmp 25) (.tmp 28) rfl HE.out (t := 28) (k := .u64) (B := w.heap.size) (ys := [d]) rfl rfl (hI.out.1.alloc _) (Rd.lit1 wr _) (by have := hsz.out; omega) (by have := hI.out.2.1.size; simp; omega) ?_); intro B1 e1 w3 ho3 hb3 _ _)
        go_roundw
        case rel => exact ⟨k + 1, _, _, _, ⟨by rw [HT.out]; exact ho3, (hI.out.2.1.alloc hI.out.2.1.size _).trans hb3, HZ.out⟩, by omega, rfl, by go_num⟩
        case measure => simp [intOf]; omega
      · have HB : Hid (¬ okDigs zs b) := fun h => hz (h k (by rw [H.out.1.1]; exact hlt))
        by_cases hz1 : zth zs k < 0
        · have q1 : decide (zth zs k < 0) = true := by simp; omega
          clear hz
          generalize zth zs k = z at *
          go_wp2
          go_ret2
          exact .inr ⟨HB.out, rfl, hI.out.2.1⟩
        · have q1 : decide (zth zs k < 0) = false := by simp; omega
          have q2 : decide ((b : Int) ≤ zth zs k) = true := by simp; omega
          clear hz
          generalize zth zs k = z at *
          go_wp2
          go_ret2
          exact .inr ⟨HB.out, rfl, hI.out.2.1⟩
    · obtain rfl : k = n := by omega
      have HG : Hid (okDigs zs b) := fun i hi => hI.out.2.2 i (by rw [H.out.1.1] at hi; exact hi)
      have HF : Hid (Own .u64 28 w.heap.size wr B m e (toN zs) ∧ Below w.heap.size w wr) := by
        have h1 := hI.out.1
        rw [List.take_of_length_le (by simp [toN, H.out.1.1])] at h1
        exact ⟨h1, hI.out.2.1⟩
      obtain rfl : m = k := by have := HF.out.1.len; simp [toN, H.out.1.1] at this; omega
      have C := Lib.hid (undigits_any (b := b) HF.out.1.rd (okDigs_all HG.out) hb (by rw [W_eq]; omega) (by omega))
      clear hI
      go_wp2_with fail
      refine C.out.mono ?_
      rintro e w3 ⟨A3, n3, c3, rfl, ho3, hb3, hl3⟩
      have HR : Hid (Own .u64 28 w.heap.size w3 A3 n3 c3 (dg W (val b (toN zs))) ∧ Below w.heap.size w w3) := ⟨ho3.mono HF.out.2.size, bt HF.out.2 hb3⟩
      clear ho3 hb3
      go_wp2
      go_ret2
      exact .inl ⟨HG.out, _, _, _, rfl, HR.out.1, HR.out.2, by omega⟩
theorem same5_any {A A2 : Option Addr} {n c m c2 : Nat} {xs ys : List Nat} {w : World} (h : Rd .u64 w A n c xs) (h' : Rd .u64 w A2 m c2 ys) (e : xs = ys) (hn : n ≤ 1099511627776) :
    Calls Tryz.prog 17 #[.slice A n c, .slice A2 m c2] w (Keeps (.bool true) w) := by
  have C : Hid (Calls Tryz.prog 37 #[.slice A n c, .slice A2 m c2] w (Keeps (.bool true) w)) := (same1_any h h' hn).mono fun _ _ ⟨he, q, hq⟩ => ⟨by rw [he, e]; simp, by rw [hq]; exact below_drewN _ _⟩
  clear h h'
  go_enter Tryz.func17, Tryz.ntmps17
  go_wp2_with fail
  refine C.out.mono ?_
  rintro e w1 ⟨rfl, hb⟩
  go_wp2
  go_ret
  exact ⟨rfl, hb⟩
end Go.Proofs.YtajoafcondgelaaGreatDoor
namespace Go.Proofs.YtajoafcondgelaaGreatDoor
set_option linter.unusedVariables false

theorem byt_list {l : List UInt8} {j : Nat} (h : j < l.length) : byt ⟨l.toArray⟩ j = l[j].toNat := by
  simp [byt, h]
theorem sgn_toNat {d : Nat} (h : d < 36) : (UInt8.ofNat (sgn d)).toNat = sgn d := by
  have := sgn_lt h
  simp [UInt8.toNat_ofNat']
  omega
theorem sgn_zero {d : Nat} (h : d < 36) : sgn d = 48 ↔ d = 0 := by unfold sgn; split <;> omega
theorem dgv_zero {c : Nat} : dgv c = 0 ↔ c = 48 := by unfold dgv; split <;> (try split) <;> omega
theorem txt_zero (b : Nat) : txt b 0 = ⟨#[48]⟩ := by rw [txt, txtl, if_pos rfl]; rfl
theorem txt_pos {b x : Nat} (h : x ≠ 0) : txt b x = ⟨((dg b x).reverse.map fun d => UInt8.ofNat (sgn d)).toArray⟩ := by rw [txt, txtl, if_neg h]
theorem txt_size {b x : Nat} (h : x ≠ 0) : (txt b x).size = (dg b x).length := by
  rw [txt_pos h]
  show (List.toArray _).size = _
  simp
theorem txt_byt {b x j : Nat} (hb36 : b ≤ 36) (hb : 2 ≤ b) (h : x ≠ 0) (hj : j < (dg b x).length) : byt (txt b x) j = sgn (nth (dg b x) ((dg b x).length - 1 - j)) := by
  rw [txt_pos h, byt_list (by simpa using hj)]
  have hlt : (dg b x).length - 1 - j < (dg b x).length := by omega
  rw [nth_lt hlt]
  simp only [List.getElem_map, List.getElem_reverse]
  exact sgn_toNat (Nat.lt_of_lt_of_le (dg_all (by omega) x _ (List.getElem_mem hlt)) hb36)
theorem txt_ok {b : Nat} (hb : 2 ≤ b) (hb36 : b ≤ 36) (x : Nat) : okText (txt b x) b ∧ val b (digs (txt b x)) = x := by
  by_cases h0 : x = 0
  · subst h0
    rw [txt_zero]
    have e1 : byt ⟨#[48]⟩ 0 = 48 := rfl
    have e2 : dgv 48 = 0 := rfl
    refine ⟨⟨by decide, fun h => absurd h.1 (by decide), fun k hk => ?_⟩, ?_⟩
    · obtain rfl : k = 0 := by have : (⟨#[48]⟩ : ByteArray).size = 1 := rfl; omega
      rw [e1, e2]; omega
    · show val b [dgv (byt ⟨#[48]⟩ 0)] = 0
      rw [e1, e2]; rfl
  · have hs := txt_size (b := b) h0
    have hn : 0 < (dg b x).length := List.length_pos_iff.2 fun e => h0 ((dg_nil_iff (by omega)).1 e)
    have hall := dg_all (b := b) (by omega) x
    have ht := norm_top (dg_norm (b := b) x) hn
    have hd : ∀ k, k < (dg b x).length → dgv (byt (txt b x) k) = nth (dg b x) ((dg b x).length - 1 - k) := fun k hk => by
      rw [txt_byt hb36 hb h0 hk, dgv_sgn]
      exact Nat.lt_of_lt_of_le (hall.nth (by omega) _) hb36
    refine ⟨⟨by omega, fun h => ?_, fun k hk => ?_⟩, ?_⟩
    · have h2 := h.2
      rw [txt_byt hb36 hb h0 hn, sgn_zero (Nat.lt_of_lt_of_le (hall.nth (by omega) _) hb36), Nat.sub_zero] at h2
      exact ht h2
    · rw [hd k (by omega)]
      exact hall.nth (by omega) _
    · have : digs (txt b x) = dg b x := by
        refine eq_of_nth (by rw [digs_len, hs]) fun i hi => ?_
        rw [digs_len] at hi
        rw [nth_digs hi, hd _ (by omega), hs, show (dg b x).length - 1 - ((dg b x).length - 1 - i) = i by omega]
      rw [this, dg_val (by omega)]
theorem bytes_ext {s t : ByteArray} (h : s.data.toList = t.data.toList) : s = t := by
  obtain ⟨⟨a⟩⟩ := s
  obtain ⟨⟨b⟩⟩ := t
  simp only at h
  rw [h]
theorem txt_back {s : ByteArray} {b : Nat} (hb : 2 ≤ b) (hb36 : b ≤ 36) (h : okText s b) : txt b (val b (digs s)) = s := by
  obtain ⟨h1, h2, h3⟩ := h
  have hall := digs_all h3
  have hl := digs_len s
  have hsl : s.data.toList.length = s.size := rfl
  have hb0 : ∀ j (hj : j < s.size), (s.data.toList[j]'(by rw [hsl]; exact hj)).toNat = byt s j := fun j hj => by
    have : j < s.data.size := hj
    unfold byt
    rw [Array.getElem?_eq_getElem this]
    simp
  by_cases h0 : byt s 0 = 48
  · have hs1 : s.size = 1 := by
      rcases Nat.lt_or_ge 1 s.size with h4 | h4
      · exact absurd ⟨h4, h0⟩ h2
      · omega
    have e : digs s = [0] := by
      refine eq_of_nth (by rw [hl, hs1]; rfl) fun i hi => ?_
      obtain rfl : i = 0 := by omega
      rw [nth_digs h1, hs1, h0]
      rfl
    rw [e]
    show txt b 0 = s
    rw [txt_zero]
    refine bytes_ext (List.ext_getElem (by rw [hsl, hs1]; rfl) fun i g1 g2 => ?_)
    obtain rfl : i = 0 := by rw [hsl] at g2; omega
    have := hb0 0 h1
    rw [h0] at this
    exact UInt8.toNat_inj.1 this.symm
  · have hn : Norm (digs s) := by
      refine strip_of_top (m := (digs s).length) (Nat.le_refl _) (fun j hj => nth_ge hj) (.inr ?_) |>.trans (List.take_length)
      rw [hl, nth_digs (by omega), show s.size - 1 - (s.size - 1) = 0 by omega]
      exact fun h4 => h0 (dgv_zero.1 h4)
    have e := norm_dg (b := b) (by omega) hall hn
    have hv0 : val b (digs s) ≠ 0 := fun h4 => by
      rw [h4, dg_zero (by omega)] at e
      rw [e] at hl
      simp at hl
      omega
    rw [txt_pos hv0, ← e]
    refine bytes_ext (List.ext_getElem (by simp [hl]) fun i g1 g2 => ?_)
    have hi : i < s.size := by rw [← hsl]; exact g2
    have hbi := hb0 i hi
    apply UInt8.toNat_inj.1
    rw [hbi]
    have hlt : (digs s).length - 1 - i < (digs s).length := by omega
    have e3 : (digs s)[(digs s).length - 1 - i] = dgv (byt s i) := by
      rw [← nth_lt hlt, nth_digs (by omega), hl, show s.size - 1 - (s.size - 1 - i) = i by omega]
    simp only [List.getElem_map, List.getElem_reverse, e3]
    have h5 := h3 i hi
    rw [sgn_toNat (by omega), sgn_dgv (by omega)]
end Go.Proofs.YtajoafcondgelaaGreatDoor
