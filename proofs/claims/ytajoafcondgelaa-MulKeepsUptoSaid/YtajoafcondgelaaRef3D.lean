/-
  The reference of layer 3: times, plus, Mul, Of, MulAdd.
-/
import Derived.Test.YtajoafcondgelaaRef3C
namespace Go.Proofs.Ytajoafcondgelaa
open Go.RowKit
set_option linter.unusedVariables false

/-- new digits, each below b, of that value, at most L of them -/
def GDV (b : Nat) (w : World) (x L : Nat) (e : Ending) (w' : World) : Prop :=
  ∃ A n c xs, e = .returned (.slice A n c) ∧ Own .i64 3 w.heap.size w' A n c xs ∧ All b xs ∧ val D xs = x ∧ Below w.heap.size w w' ∧ n ≤ L

theorem val_setD {b : Nat} {xs : List Nat} {k x : Nat} (h : k < xs.length) : val b (xs.set k x) + b ^ k * nth xs k = val b xs + b ^ k * x := by
  induction xs generalizing k with
  | nil => simp at h
  | cons y ys ih =>
    cases k with
    | zero => simp [val, nth]; omega
    | succ k =>
      have := ih (k := k) (by simpa using h)
      simp only [List.set_cons_succ, val, nth, List.getElem?_cons_succ] at this ⊢
      rw [Nat.pow_succ]
      have e1 : b ^ k * b * (ys[k]?.getD 0) = b * (b ^ k * (ys[k]?.getD 0)) := by rw [Nat.mul_comm (b ^ k) b, Nat.mul_assoc]
      have e2 : b ^ k * b * x = b * (b ^ k * x) := by rw [Nat.mul_comm (b ^ k) b, Nat.mul_assoc]
      have e3 : b * (val b (ys.set k x) + b ^ k * ys[k]?.getD 0) = b * (val b ys + b ^ k * x) := by rw [this]
      rw [Nat.mul_add, Nat.mul_add] at e3
      omega
/-- the greatest product of two digits -/
def MM : Nat := 4294836225
theorem MM_eq : MM = 4294836225 := rfl
theorem nth_set_eq {xs : List Nat} {k x : Nat} (h : k < xs.length) : nth (xs.set k x) k = x := by
  simp [nth, h]

def TimI (ds es : List Nat) (N i j : Nat) (outs : List Nat) : Prop :=
  outs.length = N ∧ val D outs = val D (ds.take i) * val D es + D ^ i * nth ds i * val D (es.take j) ∧ (∀ k, nth outs k ≤ (i + 1) * MM) ∧ ∀ k, i + j ≤ k → nth outs k ≤ i * MM
section
variable {ds es outs : List Nat} {N i j : Nat}
theorem dd_le (hd : All D ds) (he : All D es) (i j : Nat) : nth ds i * nth es j ≤ MM := by
  have h1 := hd.nth D_pos i
  have h2 := he.nth D_pos j
  rw [D_eq] at h1 h2
  exact Nat.le_trans (Nat.mul_le_mul (Nat.le_pred_of_lt h1) (Nat.le_pred_of_lt h2)) (by decide)
theorem TimI.step (h : TimI ds es N i j outs) (hd : All D ds) (he : All D es) (hN : i + j < N) : TimI ds es N i (j + 1) (outs.set (i + j) (nth outs (i + j) + nth ds i * nth es j)) := by
  obtain ⟨h1, h2, h3, h4⟩ := h
  have hs := val_setD (b := D) (xs := outs) (k := i + j) (x := nth outs (i + j) + nth ds i * nth es j) (by omega)
  have hp := dd_le hd he i j
  refine ⟨by simpa using h1, ?_, ?_, ?_⟩
  · rw [val_take_succ' es j, Nat.mul_add, ← Nat.add_assoc, ← h2]
    rw [Nat.mul_add] at hs
    have e3 : D ^ i * nth ds i * (D ^ j * nth es j) = D ^ (i + j) * (nth ds i * nth es j) := by rw [Nat.mul_mul_mul_comm, ← Nat.pow_add]
    omega
  · intro k
    by_cases hk : k = i + j
    · subst hk
      rw [nth_set_eq (by omega), Nat.succ_mul]
      have := h4 (i + j) (Nat.le_refl _)
      omega
    · rw [nth_set_ne (by omega)]; exact h3 k
  · intro k hk
    rw [nth_set_ne (by omega)]; exact h4 k (by omega)
theorem TimI.row (h : TimI ds es N i es.length outs) (hi : i < ds.length) : TimI ds es N (i + 1) 0 outs := by
  obtain ⟨h1, h2, h3, h4⟩ := h
  refine ⟨h1, ?_, fun k => ?_, fun k _ => h3 k⟩
  · rw [h2, List.take_length, val_take_succ' ds i, Nat.add_mul]
    simp [val]
  · have := h3 k
    rw [Nat.succ_mul (i + 1)]
    omega
end

set_option maxHeartbeats 2000000 in
set_option maxRecDepth 100000 in
theorem times3_any {A A2 : Option Addr} {n c m c2 : Nat} {ds es : List Nat} {w : World} (h : Rd .i64 w A n c ds) (h' : Rd .i64 w A2 m c2 es) (hd : All D ds) (he : All D es) (hn : n ≤ 268435456) (hm : m ≤ 268435456) :
    Calls Try.prog 34 #[.slice A n c, .slice A2 m c2] w (GDV 2305843009213693952 w (val D ds * val D es) (n + m)) := by
  have H := Lib.hid h
  have H' := Lib.hid h'
  have HD := Lib.hid hd
  have HS := Lib.hid he
  have HE := Lib.hid elI
  clear h h' hd he
  by_cases h0 : n = 0 ∨ m = 0
  · have hz : GDV 2305843009213693952 w (val D ds * val D es) (n + m) (.returned (.slice none 0 0)) w := by
      refine ⟨none, 0, 0, [], rfl, Own.nil, All.nil, ?_, Below.refl _ _, Nat.zero_le _⟩
      rcases h0 with h0 | h0
      · have := H.out.len
        rw [h0] at this
        rw [List.eq_nil_of_length_eq_zero this]; simp [val]
      · have := H'.out.len
        rw [h0] at this
        rw [List.eq_nil_of_length_eq_zero this]; simp [val]
    have HZ := Lib.hid hz
    clear hz
    by_cases h1 : n = 0
    · have q1 : ((n : Int) == 0) = true := by rw [beq_iff_eq]; omega
      clear h0 h1
      go_enter Try.func34, Try.ntmps34
      go_wp2
      go_ret
      exact HZ.out
    · have q1 : ((n : Int) == 0) = false := by rw [beq_eq_false_iff_ne]; omega
      have q2 : ((m : Int) == 0) = true := by rw [beq_iff_eq]; omega
      clear h0 h1
      go_enter Try.func34, Try.ntmps34
      go_wp2
      go_ret
      exact HZ.out
  · have hn0 : 0 < n := by omega
    have hm0 : 0 < m := by omega
    have q1 : ((n : Int) == 0) = false := by rw [beq_eq_false_iff_ne]; omega
    have q2 : ((m : Int) == 0) = false := by rw [beq_eq_false_iff_ne]; omega
    obtain ⟨b1, o1, e1, hb1, _⟩ := H.out.2 hn0
    obtain ⟨b2, o2, e2, hb2, _⟩ := H'.out.2 hm0
    subst e1 e2
    clear h0
    go_enter Try.func34, Try.ntmps34
    go_wp2_with (at_make; refine wpList_mk rfl (.tmp 20) (.tmp 20) rfl HE.out w.heap.size (n + m) rfl rfl (by simp) (by simp) (by omega) (Nat.le_refl _) ?_; intro w1 ho1 hg1 hbl1)
    have HO : Hid (TimI ds es (n + m) 0 0 (List.replicate (n + m) 0) ∧ Own .i64 3 w.heap.size w1 (some ⟨w.heap.size, 0, none⟩) (n + m) (n + m) (List.replicate (n + m) 0) ∧ Below w.heap.size w w1) := by
      have z : ∀ k, nth (List.replicate (n + m) 0) k = 0 := fun k => by simp [nth, List.getElem?_replicate]; split <;> rfl
      exact ⟨⟨List.length_replicate, by simp [val, val_replicate], fun k => by rw [z]; omega, fun k _ => by rw [z]; omega⟩, ho1, hbl1⟩
    clear ho1 hbl1 hg1
    go_loopw [6] (fun i wr => ∃ (k : Nat) (outs : List Nat), Hid (TimI ds es (n + m) k 0 outs ∧ Own .i64 3 w.heap.size wr (some ⟨w.heap.size, 0, none⟩) (n + m) (n + m) outs ∧ Below w.heap.size w wr) ∧ k ≤ n ∧ i = .int .i64 k) (fun i _ => n - (intOf i).toNat)
    case atStart => exact ⟨0, _, HO, Nat.zero_le _, rfl⟩
    case round =>
      obtain ⟨k, outs, hI, hk, rfl⟩ := hrel
      obtain ⟨wo, rfl⟩ : ∃ wo : World, wo = wr := ⟨_, rfl⟩
      by_cases hlt : k < n
      · go_wp2
        go_loopw [7] (fun j wr => ∃ (l : Nat) (outs : List Nat), Hid (TimI ds es (n + m) k l outs ∧ Own .i64 3 w.heap.size wr (some ⟨w.heap.size, 0, none⟩) (n + m) (n + m) outs ∧ Below w.heap.size w wr) ∧ l ≤ m ∧ j = .int .i64 l) (fun j _ => m - (intOf j).toNat)
        case atStart => exact ⟨0, outs, hI, Nat.zero_le _, rfl⟩
        case round =>
          obtain ⟨l, outs1, hJ, hl, rfl⟩ := hrel
          by_cases hlt2 : l < m
          · obtain ⟨b, off, e, _, hca⟩ := (H.out.below hJ.out.2.2).at hlt
            injection e with e; injection e with e1 e2
            subst e1 e2
            obtain ⟨b, off, e, _, hcb⟩ := (H'.out.below hJ.out.2.2).at hlt2
            injection e with e; injection e with e1 e2
            subst e1 e2
            have hcell := hJ.out.2.1.cell (i := k + l) (by omega)
            have hfr := hJ.out.2.1.frozen (i := k + l)
            have hp : ((nth ds k : Nat) : Int) * ((nth es l : Nat) : Int) ≤ 4294836225 := by
              have := dd_le HD.out HS.out k l
              rw [MM_eq] at this
              rw [← Int.natCast_mul]; omega
            have hp0 : 0 ≤ ((nth ds k : Nat) : Int) * ((nth es l : Nat) : Int) := by rw [← Int.natCast_mul]; omega
            have ho : nth outs1 (k + l) ≤ 1152886320231182336 := by
              have := hJ.out.1.2.2.2 (k + l) (Nat.le_refl _)
              have h2 : k * MM ≤ 268435456 * MM := Nat.mul_le_mul_right _ (by omega)
              rw [MM_eq] at this h2
              omega
            have i0 : (0 : Int) ≤ (k : Int) + (l : Int) := by omega
            have i1 : (k : Int) + (l : Int) < (n : Int) + (m : Int) := by omega
            have i2 : (0 : Int) ≤ (k : Int) := by omega
            have i3 : (k : Int) < (n : Int) := by omega
            have i4 : (0 : Int) ≤ (l : Int) := by omega
            have i5 : (l : Int) < (m : Int) := by omega
            go_wp2
            have s1 : IntKind.i64.wrap ((k : Int) + (l : Int)) = (k : Int) + (l : Int) := IntWalk.i64_in _ (by omega)
            have s2 : ((k : Int) + (l : Int)).toNat = k + l := by omega
            have s3 : IntKind.i64.wrap (((nth ds k : Nat) : Int) * ((nth es l : Nat) : Int)) = ((nth ds k : Nat) : Int) * ((nth es l : Nat) : Int) := IntWalk.i64_in _ (by omega)
            have s4 : IntKind.i64.wrap (((nth outs1 (k + l) : Nat) : Int) + ((nth ds k : Nat) : Int) * ((nth es l : Nat) : Int)) = ((nth outs1 (k + l) : Nat) : Int) + ((nth ds k : Nat) : Int) * ((nth es l : Nat) : Int) := IntWalk.i64_in _ (by omega)
            refine wp_region_still_tail 21 (by kernel_rfl) (by kernel_rfl) ?_
            simp only [List.take_succ_cons, List.take_zero, List.drop_succ_cons, List.drop_zero]
            change wpStill _ _ (World.drew _) (fun a' => wpList _ _ _ _ a' (World.drew _)) _ _
            repeat still_step
            refine wpStill_nil ?_
            change wpList _ _ _ _ _ (World.drew _)
            clear s1 s2 s3 s4
            go_wp2
            go_roundw
            case rel =>
              have e : ((nth outs1 (k + l) : Nat) : Int) + ((nth ds k : Nat) : Int) * ((nth es l : Nat) : Int) = ((nth outs1 (k + l) + nth ds k * nth es l : Nat) : Int) := by
                rw [Int.natCast_add, Int.natCast_mul]
              rw [e]
              exact ⟨l + 1, _, ⟨hJ.out.1.step HD.out HS.out (by omega), hJ.out.2.1.stored.drew, (hJ.out.2.2.setCell (Nat.le_refl _) _).drew⟩, by omega, by go_num⟩
            case measure => simp [intOf]; omega
          · obtain rfl : l = m := by omega
            go_wp2
            go_roundw
            case rel =>
              have e := H'.out.len
              have h1 := hJ.out.1
              subst e
              exact ⟨k + 1, _, ⟨h1.row (by rw [H.out.len]; exact hlt), hJ.out.2.1, hJ.out.2.2⟩, by omega, by go_num⟩
            case measure => simp [intOf]; omega
      · obtain rfl : k = n := by omega
        go_wp2
        go_ret
        obtain ⟨⟨t1, t2, t3, t4⟩, t5, t6⟩ := hI.out
        refine ⟨_, _, _, outs, rfl, t5, ?_, ?_, t6, Nat.le_refl _⟩
        · intro x hx
          obtain ⟨i, hi, rfl⟩ := List.getElem_of_mem hx
          have := t4 i
          by_cases hik : k + 0 ≤ i
          · have h2 := t4 i hik
            rw [nth_lt hi] at h2
            have h3 : k * MM ≤ 268435456 * MM := Nat.mul_le_mul_right _ hn
            rw [MM_eq] at h2 h3
            omega
          · have h2 := t3 i
            rw [nth_lt hi] at h2
            have h3 : (k + 1) * MM ≤ 268435457 * MM := Nat.mul_le_mul_right _ (by omega)
            rw [MM_eq] at h2 h3
            omega
        · rw [t2, List.take_of_length_le (by rw [H.out.len]; exact Nat.le_refl _)]
          simp [val]

/-- place by place -/
def PlusI (ds es : List Nat) (i : Nat) (outs : List Nat) : Prop := outs.length = i ∧ (∀ k, k < i → nth outs k = nth ds k + nth es k) ∧ val D outs = val D (ds.take i) + val D (es.take i)
theorem PlusI.step {ds es outs : List Nat} {i : Nat} (h : PlusI ds es i outs) : PlusI ds es (i + 1) (outs ++ [nth ds i + nth es i]) := by
  obtain ⟨h1, h2, h3⟩ := h
  refine ⟨by simp [h1], fun k hk => ?_, ?_⟩
  · by_cases hki : k < i
    · rw [nth_lt (by simp; omega), List.getElem_append_left (by omega), ← nth_lt (by omega)]; exact h2 k hki
    · obtain rfl : k = i := by omega
      rw [nth_lt (by simp; omega)]
      simp [h1]
  · rw [val_append, h3, h1, val_take_succ' ds i, val_take_succ' es i]
    simp only [val, Nat.mul_zero, Nat.add_zero, Nat.mul_add]
    omega
theorem All.up {b b' : Nat} {xs : List Nat} (h : All b xs) (hb : b ≤ b') : All b' xs := fun x hx => Nat.lt_of_lt_of_le (h x hx) hb
/-- as GDV, the length is known -/
def GDE (b : Nat) (w : World) (x L : Nat) (e : Ending) (w' : World) : Prop :=
  ∃ A c xs, e = .returned (.slice A L c) ∧ Own .i64 3 w.heap.size w' A L c xs ∧ All b xs ∧ val D xs = x ∧ Below w.heap.size w w'
set_option maxHeartbeats 2000000 in
theorem plus3_full {A A2 : Option Addr} {n c m c2 b : Nat} {ds es : List Nat} {w : World} (h : Rd .i64 w A n c ds) (h' : Rd .i64 w A2 m c2 es) (hp : 0 < b) (hq : b ≤ 2305843009213693952) (hd : All b ds) (he : All b es) (hn : n ≤ 137438953472) (hm : m ≤ 137438953472) :
    Calls Try.prog 36 #[.slice A n c, .slice A2 m c2] w (GDE (2 * b) w (val D ds + val D es) (max n m)) := by
  have H := Lib.hid h
  have H' := Lib.hid h'
  have HD0 := Lib.hid hd
  have HD := Lib.hid (hd.up hq)
  have HS0 := Lib.hid he
  have HS := Lib.hid (he.up hq)
  have HP := Lib.hid hp
  have HE := Lib.hid elI
  clear h h' hd he hp hq
  go_enter Try.func36, Try.ntmps36
  go_wp2
  go_loopw [5, 6] (fun o iv wr => ∃ (i : Nat) (B : Option Addr) (q e : Nat) (outs : List Nat), Hid (PlusI ds es i outs ∧ Own .i64 3 w.heap.size wr B q e outs ∧ Below w.heap.size w wr) ∧ i ≤ max n m ∧ o = .slice B q e ∧ iv = .int .i64 i) (fun _ iv _ => max n m - (intOf iv).toNat)
  case atStart => exact ⟨0, none, 0, 0, [], ⟨⟨rfl, fun k hk => by omega, by simp [val]⟩, Own.nil, Below.refl _ _⟩, Nat.zero_le _, rfl, rfl⟩
  case round =>
    obtain ⟨i, B, q, e, outs, hI, hi, rfl, rfl⟩ := hrel
    have bx : nth ds i < 2305843009213693952 := HD.out.nth (by decide) i
    have by_ : nth es i < 2305843009213693952 := HS.out.nth (by decide) i
    by_cases hln : i < n
    · obtain ⟨b, off, ea, hb, hca⟩ := (H.out.below hI.out.2.2).at hln
      subst ea
      by_cases hlm : i < m
      · obtain ⟨b2, off2, ea, hb2, hcb⟩ := (H'.out.below hI.out.2.2).at hlm
        subst ea
        have HM : Hid (q = i) := by show q = i; have := hI.out.2.1.len; have := hI.out.1.1; omega
        go_wp2_with (at_builtin; rw [← Int.natCast_add]; (refine wpList_app rfl (.tmp 38) (.tmp 40) rfl HE.out (t := 3) (k := .i64) (B := w.heap.size) (ys := [nth ds i + nth es i]) rfl rfl (hI.out.2.1.alloc _) (Rd.lit1 wr _) (by have := HM.out; omega) (by have := hI.out.2.2.size; simp; omega) ?_); intro B1 e1 w1 ho1 hb1 _ _)
        go_roundw
        case rel => exact ⟨i + 1, B1, _, e1, _, ⟨hI.out.1.step, ho1, (hI.out.2.2.alloc hI.out.2.2.size _).trans hb1⟩, by omega, rfl, by go_num⟩
        case measure => simp [intOf]; omega
      · have hz : nth es i = 0 := nth_ge (by rw [H'.out.len]; omega)
        have HZ := Lib.hid (show ((nth ds i : Nat) : Int) = ((nth ds i + nth es i : Nat) : Int) by rw [hz, Nat.add_zero])
        clear hz
        have HM : Hid (q = i) := by show q = i; have := hI.out.2.1.len; have := hI.out.1.1; omega
        go_wp2_with (at_builtin; rw [HZ.out]; (refine wpList_app rfl (.tmp 38) (.tmp 40) rfl HE.out (t := 3) (k := .i64) (B := w.heap.size) (ys := [nth ds i + nth es i]) rfl rfl (hI.out.2.1.alloc _) (Rd.lit1 wr _) (by have := HM.out; omega) (by have := hI.out.2.2.size; simp; omega) ?_); intro B1 e1 w1 ho1 hb1 _ _)
        go_roundw
        case rel => exact ⟨i + 1, B1, _, e1, _, ⟨hI.out.1.step, ho1, (hI.out.2.2.alloc hI.out.2.2.size _).trans hb1⟩, by omega, rfl, by go_num⟩
        case measure => simp [intOf]; omega
    · by_cases hlm : i < m
      · obtain ⟨b2, off2, ea, hb2, hcb⟩ := (H'.out.below hI.out.2.2).at hlm
        subst ea
        have hz : nth ds i = 0 := nth_ge (by rw [H.out.len]; omega)
        have HZ := Lib.hid (show ((nth es i : Nat) : Int) = ((nth ds i + nth es i : Nat) : Int) by rw [hz, Nat.zero_add])
        clear hz
        have HM : Hid (q = i) := by show q = i; have := hI.out.2.1.len; have := hI.out.1.1; omega
        go_wp2_with (at_builtin; rw [HZ.out]; (refine wpList_app rfl (.tmp 38) (.tmp 40) rfl HE.out (t := 3) (k := .i64) (B := w.heap.size) (ys := [nth ds i + nth es i]) rfl rfl (hI.out.2.1.alloc _) (Rd.lit1 wr _) (by have := HM.out; omega) (by have := hI.out.2.2.size; simp; omega) ?_); intro B1 e1 w1 ho1 hb1 _ _)
        go_roundw
        case rel => exact ⟨i + 1, B1, _, e1, _, ⟨hI.out.1.step, ho1, (hI.out.2.2.alloc hI.out.2.2.size _).trans hb1⟩, by omega, rfl, by go_num⟩
        case measure => simp [intOf]; omega
      · go_wp2
        go_ret
        obtain ⟨⟨t1, t2, t3⟩, t5, t6⟩ := hI.out
        have hmx : i = max n m := by omega
        obtain rfl : q = max n m := by have := t5.len; omega
        refine ⟨_, _, outs, rfl, t5, ?_, ?_, t6⟩
        · intro x hx
          obtain ⟨k, hk, rfl⟩ := List.getElem_of_mem hx
          have h2 := t2 k (by omega)
          rw [nth_lt hk] at h2
          have h3 := HD0.out.nth HP.out k
          have h4 := HS0.out.nth HP.out k
          omega
        · rw [t3, List.take_of_length_le (by rw [H.out.len]; omega), List.take_of_length_le (by rw [H'.out.len]; omega)]

theorem plus3_any {A A2 : Option Addr} {n c m c2 : Nat} {ds es : List Nat} {w : World} (h : Rd .i64 w A n c ds) (h' : Rd .i64 w A2 m c2 es) (hd : All 2305843009213693952 ds) (he : All 2305843009213693952 es) (hn : n ≤ 137438953472) (hm : m ≤ 137438953472) :
    Calls Try.prog 36 #[.slice A n c, .slice A2 m c2] w (GDV 4611686018427387904 w (val D ds + val D es) (max n m)) :=
  (plus3_full h h' (by decide) (Nat.le_refl _) hd he hn hm).mono fun _ _ ⟨A, c, xs, e1, o, a, v, b⟩ => ⟨A, _, c, xs, e1, o, a, v, b, Nat.le_refl _⟩

theorem dgD62 (x : Nat) : All 2305843009213693952 (dg D x) := (dg_all D_gt x).up (by decide)

set_option maxHeartbeats 400000 in
theorem mul3_any {v u : Value} {x y L K : Nat} {w : World} (h : Num w v x L) (h' : Num w u y K) (hL : L ≤ 67108864) (hK : K ≤ 67108864) :
    Calls Try.prog 15 #[v, u] w (GN w (x * y) (L + K)) := by
  have H := Lib.hid h
  have H' := Lib.hid h'
  have HB := Lib.hid (dgl (lt_mul h.lt h'.lt))
  have HD := Lib.hid (dgD_len h.lt)
  have HD' := Lib.hid (dgD_len h'.lt)
  clear h h'
  go_enter Try.func15, Try.ntmps15
  go_wp2_with fail
  refine (digits3_any H.out (by omega)).mono ?_
  rintro e w1 ⟨A_d, n_d, c_d, rfl, o_d, hb1⟩
  go_wp2_with fail
  refine (digits3_any (H'.out.below hb1) (by omega)).mono ?_
  rintro e w2 ⟨A_e, n_e, c_e, rfl, o_e, hb2⟩
  have k1 : n_d ≤ 268435456 := by have := HD.out; have := o_d.len; omega
  have k2 : n_e ≤ 268435456 := by have := HD'.out; have := o_e.len; omega
  go_wp2_with fail
  refine (times3_any (o_d.rd.below hb2) o_e.rd (dg_all D_gt x) (dg_all D_gt y) k1 k2).mono ?_
  rintro e w3 ⟨A_t, n_t, c_t, xs_t, rfl, o_t, a_t, v_t, hb3, l_t⟩
  have V_t := Lib.hid v_t
  clear v_t
  go_wp2_with fail
  refine (number3_any o_t.rd (a_t.up (by decide)) (by omega)).mono ?_
  rintro e w4 ⟨A_r, n_r, c_r, rfl, o_r, hb4, l_r⟩
  go_wp2
  go_ret
  rw [V_t.out, dg_val D_gt, dg_val D_gt] at o_r
  exact ⟨_, _, _, rfl, (o_r.mono (bt (bt hb1 hb2) hb3).size), (bt (bt (bt hb1 hb2) hb3) hb4), by rw [← o_r.len]; exact HB.out⟩

set_option maxHeartbeats 400000 in
theorem mulAdd3_any {v u t : Value} {x y z L K M : Nat} {w : World} (h : Num w v x L) (h' : Num w u y K) (h'' : Num w t z M) (hL : L ≤ 67108864) (hK : K ≤ 67108864) (hM : M ≤ 4294967296) :
    Calls Try.prog 17 #[v, u, t] w (GN w (x * y + z) (max (L + K) M + 1)) := by
  have H := Lib.hid h
  have H' := Lib.hid h'
  have H'' := Lib.hid h''
  have HB := Lib.hid (dgl (lt_add (lt_mul h.lt h'.lt) h''.lt))
  have HD := Lib.hid (dgD_len h.lt)
  have HD' := Lib.hid (dgD_len h'.lt)
  have HD'' := Lib.hid (dgD_len h''.lt)
  clear h h' h''
  go_enter Try.func17, Try.ntmps17
  go_wp2_with fail
  refine (digits3_any H.out (by omega)).mono ?_
  rintro e w1 ⟨A_d, n_d, c_d, rfl, o_d, hb1⟩
  go_wp2_with fail
  refine (digits3_any (H'.out.below hb1) (by omega)).mono ?_
  rintro e w2 ⟨A_e, n_e, c_e, rfl, o_e, hb2⟩
  have k1 : n_d ≤ 268435456 := by have := HD.out; have := o_d.len; omega
  have k2 : n_e ≤ 268435456 := by have := HD'.out; have := o_e.len; omega
  go_wp2_with fail
  refine (times3_any (o_d.rd.below hb2) o_e.rd (dg_all D_gt x) (dg_all D_gt y) k1 k2).mono ?_
  rintro e w3 ⟨A_t, n_t, c_t, xs_t, rfl, o_t, a_t, v_t, hb3, l_t⟩
  have V_t := Lib.hid v_t
  clear v_t
  go_wp2_with fail
  refine (digits3_any (((H''.out.below hb1).below hb2).below hb3) (by omega)).mono ?_
  rintro e w4 ⟨A_f, n_f, c_f, rfl, o_f, hb4⟩
  have k3 : n_f ≤ 17179869184 := by have := HD''.out; have := o_f.len; omega
  go_wp2_with fail
  refine (plus3_any (o_t.rd.below hb4) o_f.rd a_t (dgD62 z) (by omega) (by omega)).mono ?_
  rintro e w5 ⟨A_s, n_s, c_s, xs_s, rfl, o_s, a_s, v_s, hb5, l_s⟩
  have V_s := Lib.hid v_s
  clear v_s
  go_wp2_with fail
  refine (number3_any o_s.rd a_s (by omega)).mono ?_
  rintro e w6 ⟨A_r, n_r, c_r, rfl, o_r, hb6, l_r⟩
  go_wp2
  go_ret
  rw [V_s.out, V_t.out, dg_val D_gt, dg_val D_gt, dg_val D_gt] at o_r
  exact ⟨_, _, _, rfl, (o_r.mono (bt (bt (bt (bt hb1 hb2) hb3) hb4) hb5).size), (bt (bt (bt (bt (bt hb1 hb2) hb3) hb4) hb5) hb6), by rw [← o_r.len]; exact HB.out⟩

set_option maxHeartbeats 400000 in
theorem of3_any {x : Nat} {x' : Int} {w : World} (hx' : x' = (x : Int)) (hx : x < W) : Calls Try.prog 37 #[.int .u64 x'] w (GN w x 1) := by
  subst hx'
  have HX := Lib.hid hx
  clear hx
  by_cases h0 : x = 0
  · have q : ((x : Int) == 0) = true := by rw [beq_iff_eq]; omega
    have H0 := Lib.hid h0
    clear h0
    go_enter Try.func37, Try.ntmps37
    go_wp2
    go_ret
    exact ⟨none, 0, 0, rfl, Own.nilx (by rw [H0.out, dg_zero W_gt]), Below.refl _ _, by omega⟩
  · have q : ((x : Int) == 0) = false := by rw [beq_eq_false_iff_ne]; omega
    have H0 := Lib.hid h0
    clear h0
    go_enter Try.func37, Try.ntmps37
    go_wp2
    go_ret
    refine ⟨some ⟨w.heap.size, 0, none⟩, 1, 1, rfl, ?_, (Below.refl _ _).alloc (Nat.le_refl _) _, Nat.le_refl _⟩
    have e : dg W x = [x] := by
      have := norm_dg (xs := [x]) W_gt (All.cons HX.out All.nil) (by simp [Norm, strip, H0.out])
      rw [this]; simp [val]
    rw [e]
    exact Own.lit (k := .u64) (t := 30) w [x] (by simp [maxLen]) (Nat.le_refl _)
end Go.Proofs.Ytajoafcondgelaa
