/-
  The reference of layer 1: surdref01.Words, power, Times.
-/
import Derived.Test.YtamfhmmcnlollaaGreatRef1B
namespace Go.Proofs.YtamfhmmcnlollaaGreat
open Go.RowKit
set_option linter.unusedVariables false

/-- r digits of the word i, from its top -/
def part (ds : List Nat) (i : Nat) : Nat → Nat
  | 0 => 0
  | r + 1 => part ds i r * 65536 + nth ds (4 * i + (3 - r))
theorem part_lt {ds : List Nat} (h : All D ds) (i r : Nat) : part ds i r < D ^ r := by
  induction r with
  | zero => simp [part]
  | succ r ih =>
    have := h.nth D_pos (4 * i + (3 - r))
    rw [part, Nat.pow_succ]
    generalize part ds i r = p at *
    have h2 : (p + 1) * D ≤ D ^ r * D := Nat.mul_le_mul_right _ ih
    rw [Nat.add_mul, D_eq] at h2
    rw [D_eq] at *
    omega
theorem val_split {b : Nat} (xs : List Nat) (k : Nat) : ∃ r, val b xs = val b (xs.take k) + b ^ k * r := by
  by_cases h : xs.length ≤ k
  · exact ⟨0, by rw [val_take_ge h]; simp⟩
  · refine ⟨val b (xs.drop k), ?_⟩
    have := val_append (b := b) (xs.take k) (xs.drop k)
    rw [List.take_append_drop, List.length_take, Nat.min_eq_left (by omega)] at this
    exact this
theorem part_four {ds : List Nat} (h : All D ds) (i : Nat) : part ds i 4 = val D ds / W ^ i % W := by
  obtain ⟨r, hr⟩ := val_split (b := D) ds (4 * i + 4)
  have h1 := val_take_lt h D_pos (4 * i)
  have h2 := part_lt h i 4
  have e : val D (ds.take (4 * i + 4)) = val D (ds.take (4 * i)) + D ^ (4 * i) * part ds i 4 := by
    rw [val_take_succ', val_take_succ' ds (4 * i + 2), val_take_succ' ds (4 * i + 1), val_take_succ' ds (4 * i)]
    have p3 : D ^ (4 * i + 3) = D ^ (4 * i) * 281474976710656 := by rw [Nat.pow_add]; rfl
    have p2 : D ^ (4 * i + 2) = D ^ (4 * i) * 4294967296 := by rw [Nat.pow_add]; rfl
    have p1 : D ^ (4 * i + 1) = D ^ (4 * i) * 65536 := by rw [Nat.pow_add]; rfl
    rw [p1, p2, p3]
    simp only [part]
    generalize D ^ (4 * i) = q
    simp only [Nat.sub_zero, Nat.zero_mul, Nat.zero_add, Nat.reduceSub, Nat.add_zero, Nat.add_mul, Nat.mul_add]
    generalize nth ds (4 * i) = a0
    generalize nth ds (4 * i + 1) = a1
    generalize nth ds (4 * i + 2) = a2
    generalize nth ds (4 * i + 3) = a3
    simp only [Nat.mul_comm, Nat.mul_left_comm]
    simp only [← Nat.mul_assoc, Nat.reduceMul]
    simp only [Nat.mul_assoc]
    omega
  have ew : W ^ i = D ^ (4 * i) := by rw [W_D, ← Nat.pow_mul]
  have e2 : D ^ (4 * i + 4) = D ^ (4 * i) * W := by rw [Nat.pow_add, W_D]
  rw [hr, e, ew, e2, Nat.mul_assoc, Nat.add_assoc, ← Nat.mul_add, Nat.add_mul_div_left _ _ (Nat.pow_pos D_pos), Nat.div_eq_of_lt h1, Nat.zero_add, Nat.add_mul_mod_self_left]
  rw [← W_D] at h2
  rw [Nat.mod_eq_of_lt h2]
theorem nth_wds {b n x i : Nat} (h : i < n) : nth (wds b n x) i = x / b ^ i % b := by
  induction n generalizing x i with
  | zero => omega
  | succ n ih =>
    cases i with
    | zero => simp [wds, nth]
    | succ i =>
      have := ih (x := x / b) (i := i) (by omega)
      rw [Nat.div_div_eq_div_mul, ← Nat.pow_succ'] at this
      rw [← this]
      simp [wds, nth]

/-- i words are done -/
def WrdI (ds : List Nat) (n i : Nat) (outs : List Nat) : Prop :=
  outs.length = n ∧ (∀ j, j < i → nth outs j = val D ds / W ^ j % W) ∧ ∀ j, i ≤ j → nth outs j = 0
theorem WrdI.step {ds outs : List Nat} {n i : Nat} (h : WrdI ds n i outs) (hd : All D ds) (hi : i < n) : WrdI ds n (i + 1) (outs.set i (part ds i 4)) := by
  obtain ⟨h1, h2, h3⟩ := h
  refine ⟨by simpa using h1, fun j hj => ?_, fun j hj => ?_⟩
  · by_cases hji : j = i
    · subst hji
      rw [← part_four hd]
      simp [nth, h1, hi]
    · rw [nth_set_ne (by omega)]; exact h2 j (by omega)
  · rw [nth_set_ne (by omega)]; exact h3 j (by omega)
theorem WrdI.done {ds outs : List Nat} {n : Nat} (h : WrdI ds n n outs) : outs = wds W n (val D ds) := by
  obtain ⟨h1, h2, h3⟩ := h
  refine eq_of_nth (by rw [h1, wds_length]) fun i hi => ?_
  rw [h2 i (by omega), nth_wds (by omega)]

set_option maxHeartbeats 2000000 in
set_option maxRecDepth 100000 in
theorem words1_raw {A : Option Addr} {n c m : Nat} {m' : Int} {ds : List Nat} {w : World} (h : Rd .i64 w A n c ds) (hd : All D ds) (hm' : m' = (m : Int)) (hn : n ≤ 1099511627776) (hm : m ≤ 137438953472) :
    Calls Tryz.prog 141 #[.slice A n c, .int .i64 m'] w (Gives .u64 41 w (wds W m (val D ds))) := by
  subst hm'
  have H := Lib.hid h
  have HD := Lib.hid hd
  have HE := Lib.hid elW
  clear h hd
  go_enter Tryz.func141, Tryz.ntmps141
  go_wp2_with (at_make; refine wpList_mk rfl (.tmp 8) (.tmp 8) rfl HE.out w.heap.size m rfl rfl rfl rfl (by omega) (Nat.le_refl _) ?_; intro w1 ho1 hg1 hb1)
  have HO : Hid (Own .u64 41 w.heap.size w1 (some ⟨w.heap.size, 0, none⟩) m m (List.replicate m 0) ∧ Below w.heap.size w w1) := ⟨ho1, hb1⟩
  clear ho1 hb1 hg1
  go_loopw [6] (fun iv wr => ∃ (i : Nat) (outs : List Nat), Hid (WrdI ds m i outs ∧ Own .u64 41 w.heap.size wr (some ⟨w.heap.size, 0, none⟩) m m outs ∧ Below w.heap.size w wr) ∧ i ≤ m ∧ iv = .int .i64 i) (fun iv _ => m - (intOf iv).toNat)
  case atStart =>
    refine ⟨0, List.replicate m 0, ⟨⟨List.length_replicate, fun j hj => by omega, fun j _ => ?_⟩, HO.out⟩, Nat.zero_le _, rfl⟩
    simp [nth, List.getElem?_replicate]; split <;> rfl
  case round =>
    obtain ⟨i, outs, hI, hi, rfl⟩ := hrel
    by_cases hlt : i < m
    · go_wp2
      go_loopw [7] (fun kv wr => ∃ r : Nat, Hid (Own .u64 41 w.heap.size wr (some ⟨w.heap.size, 0, none⟩) m m (outs.set i (part ds i r)) ∧ Below w.heap.size w wr) ∧ r ≤ 4 ∧ kv = .int .i64 (3 - (r : Int))) (fun kv _ => (intOf kv + 1).toNat)
      case atStart =>
        refine ⟨0, ⟨?_, hI.out.2.2⟩, by omega, by go_num⟩
        have e : outs.set i (part ds i 0) = outs := by
          have hl := hI.out.1.1
          refine eq_of_nth (by simp) fun j hj => ?_
          by_cases hji : j = i
          · subst hji
            rw [hI.out.1.2.2 j (Nat.le_refl _)]
            simp [nth, hl, hlt, part]
          · rw [nth_set_ne (by omega)]
        rw [e]
        exact hI.out.2.1
      case round =>
        obtain ⟨r, hJ, hr, rfl⟩ := hrel
        by_cases hlt2 : r < 4
        · have hl := Lib.hid hI.out.1.1
          have hcell := hJ.out.1.cell (i := i) hlt
          rw [show nth (outs.set i (part ds i r)) i = part ds i r by simp [nth, hl.out, hlt]] at hcell
          have hfr := hJ.out.1.frozen (i := i)
          have hp : part ds i r < 281474976710656 := by
            have := part_lt HD.out i r
            have h2 : D ^ r ≤ D ^ 3 := Nat.pow_le_pow_right D_pos (by omega)
            have e : D ^ 3 = 281474976710656 := rfl
            omega
          have hd1 : nth ds (4 * i + (3 - r)) < 65536 := HD.out.nth D_pos _
          have HP : Hid (part ds i (r + 1) = part ds i r * 65536 + nth ds (4 * i + (3 - r))) := rfl
          have c1 := Lib.hid (digit1_any (w := wr.drew) (A := A) (c := c) (i := 4 * i + (3 - r)) (i' := 4 * (i : Int) + (3 - (r : Int))) (H.out.below hJ.out.2).drew (by omega) (by omega))
          generalize hp1 : part ds i (r + 1) = p1 at *
          have HP1 := Lib.hid hp1
          clear hp1
          generalize nth ds (4 * i + (3 - r)) = d1 at *
          generalize part ds i r = p at *
          have i0 : (0 : Int) ≤ (i : Int) := by omega
          have i1 : (i : Int) < (m : Int) := by omega
          have s1 : IntKind.i64.wrap (4 * (i : Int)) = 4 * (i : Int) := IntWalk.i64_in _ (by omega)
          have s2 : IntKind.i64.wrap (4 * (i : Int) + (3 - (r : Int))) = 4 * (i : Int) + (3 - (r : Int)) := IntWalk.i64_in _ (by omega)
          have s3 : IntKind.u64.wrap ((p : Int) * 65536) = (p : Int) * 65536 := by rw [IntKind.wrap_u64]; omega
          have s4 : IntKind.u64.wrap ((p : Int) * 65536 + (d1 : Int)) = (p : Int) * 65536 + (d1 : Int) := by rw [IntKind.wrap_u64]; omega
          have s5 : IntKind.u64.wrap (d1 : Int) = (d1 : Int) := by rw [IntKind.wrap_u64]; omega
          go_wp2
          refine wp_region_still_tail 16 (by kernel_rfl) (by kernel_rfl) ?_
          simp only [List.take_succ_cons, List.take_zero, List.drop_succ_cons, List.drop_zero]
          change wpStill _ _ (World.drew _) (fun a' => wpList _ _ _ _ a' (World.drew _)) _ _
          repeat still_step
          still_call (c1.out.mono fun e w' h => ⟨h.1, h.2.symm⟩)
          repeat still_step
          refine wpStill_nil ?_
          change wpList _ _ _ _ _ (World.drew _)
          clear s1 s2 s3 s4 s5
          go_wp2
          go_roundw
          case rel =>
            have e : (p : Int) * 65536 + (d1 : Int) = ((p1 : Nat) : Int) := by rw [HP.out]; omega
            rw [e]
            refine ⟨r + 1, ⟨?_, (hJ.out.2.setCell (Nat.le_refl _) _).drew⟩, by omega, by go_num⟩
            have := (hJ.out.1.stored (i := i) (x := p1)).drew
            rw [List.set_set] at this
            rw [HP1.out]
            exact this
          case measure => simp [intOf]; omega
        · obtain rfl : r = 4 := by omega
          go_wp2
          go_roundw
          case rel =>
            exact ⟨i + 1, _, ⟨hI.out.1.step HD.out hlt, hJ.out.1, hJ.out.2⟩, by omega, by go_num⟩
          case measure => simp [intOf]; omega
    · obtain rfl : i = m := by omega
      go_wp2
      go_ret
      have e := hI.out.1.done
      rw [← e]
      exact ⟨_, _, _, rfl, hI.out.2.1, hI.out.2.2⟩
/-- k digits of the row of a are done -/
def RowJ (es : List Nat) (m i a k cn : Nat) (row : List Nat) : Prop :=
  All D row ∧ row.length = i + k ∧ cn < 65536 ∧ k ≤ m + 1 ∧ (m < k → cn = 0) ∧ val D row + D ^ (i + k) * cn = D ^ i * (a * val D (es.take k))
theorem RowJ.step {es row : List Nat} {m i a k cn : Nat} (h : RowJ es m i a k cn row) (he : All D es) (hm : es.length = m) (ha : a < 65536) (hgo : k < m ∨ 0 < cn) :
    RowJ es m i a (k + 1) ((cn + a * nth es k) / 65536) (row ++ [(cn + a * nth es k) % 65536]) := by
  obtain ⟨g1, g2, g3, g4, g5, g6⟩ := h
  have b1 : nth es k < 65536 := he.nth D_pos k
  have b2 : a * nth es k ≤ 65535 * 65535 := Nat.mul_le_mul (by omega) (by omega)
  refine ⟨g1.append (All.cons (Nat.mod_lt _ D_pos) All.nil), by simp [g2]; omega, by omega, by omega, ?_, ?_⟩
  · intro hk
    have e1 : nth es k = 0 := nth_ge (by omega)
    rw [e1]
    omega
  · rw [val_append, val_take_succ', g2]
    simp only [val, Nat.mul_zero, Nat.add_zero]
    have e := Nat.mod_add_div (cn + a * nth es k) 65536
    have e2 : D ^ (i + k) * ((cn + a * nth es k) % 65536 + 65536 * ((cn + a * nth es k) / 65536)) = D ^ (i + k) * (cn + a * nth es k) := by rw [e]
    generalize (cn + a * nth es k) % 65536 = r at *
    generalize (cn + a * nth es k) / 65536 = q at *
    have e3 : D ^ i * (a * (val D (es.take k) + D ^ k * nth es k)) = D ^ i * (a * val D (es.take k)) + D ^ (i + k) * (a * nth es k) := by
      rw [Nat.mul_add, Nat.mul_add, Nat.pow_add, Nat.mul_left_comm a, Nat.mul_assoc]
    rw [e3, ← g6]
    rw [Nat.mul_add, Nat.mul_add, ← Nat.mul_assoc] at e2
    rw [← Nat.add_assoc, Nat.pow_succ, D_eq] at *
    omega
theorem RowJ.done {es row : List Nat} {m i a k cn : Nat} (h : RowJ es m i a k cn row) (hm : es.length = m) (h1 : ¬ k < m) (h2 : ¬ 0 < cn) : All D row ∧ val D row = D ^ i * (a * val D es) ∧ row.length ≤ i + m + 1 := by
  obtain ⟨g1, g2, g3, g4, g5, g6⟩ := h
  obtain rfl : cn = 0 := by omega
  rw [val_take_ge (by omega)] at g6
  exact ⟨g1, by omega, by omega⟩

end Go.Proofs.YtamfhmmcnlollaaGreat
