/-
  Walks: div.correct, guess. copy onto an own slice; walks: slices.Grow of nil, slices.Concat.
-/
import Derived.Test.YtamfhmmcnlollaaGreatKnu3
import Derived.Test.YtamfhmmcnlollaaGreatDivOne
import Derived.Test.YtamfhmmcnlollaaGreatPack
import Derived.Lib.AppendZeros
import Derived.Laws.CopyOwn
namespace Go.Proofs.YtamfhmmcnlollaaGreat
open Go.RowKit
set_option linter.unusedVariables false
set_option maxHeartbeats 2000000 in
theorem correct_any {T u0 v1 v0 q rest : Nat} {w : World} (h : CorI T u0 v1 v0 q rest) (hr : rest < W) (hv : 0 < v1) (hv1 : v1 < W) (hv0 : v0 < W) (hu : u0 < W) :
    Calls Tryz.prog 188 #[.int .u64 (q : Int), .int .u64 (rest : Int), .int .u64 (u0 : Int), .int .u64 (v1 : Int), .int .u64 (v0 : Int)] w (fun e w' => e = .returned (.int .u64 ((gq (T * W + u0) (v1 * W + v0) : Nat) : Int)) ∧ w = w') := by
  have HV := Lib.hid hv
  have HV1 := Lib.hid hv1
  have HV0 := Lib.hid hv0
  have HU := Lib.hid hu
  have HS := Lib.hid (And.intro h hr)
  obtain ⟨g, hg⟩ : ∃ g, g = gq (T * W + u0) (v1 * W + v0) := ⟨_, rfl⟩
  have HG := Lib.hid hg
  rw [← hg]
  clear hv hv1 hv0 hu h hr hg
  go_enter Tryz.func188, Tryz.ntmps188
  go_wp2
  go_step3
  go_wp2
  go_step3
  go_wp2
  go_loop [0, 1] (fun qv rv => ∃ (q rest : Nat), Hid (CorI T u0 v1 v0 q rest ∧ rest < W) ∧ qv = .int .u64 (q : Int) ∧ rv = .int .u64 (rest : Int)) (fun qv _ => (intOf qv).toNat)
  case atStart => exact ⟨_, _, HS, rfl, rfl⟩
  case round =>
    obtain ⟨q, rest, hI, rfl, rfl⟩ := hrel
    have C1 := Lib.hid (mul64_any q v0 w hI.out.1.2.2 HV0.out rfl rfl)
    have HT := Lib.hid (hi_lo (q := q) (v0 := v0) (rest := rest) HU.out)
    have e1 : q * v0 / W = hi (q * v0) := rfl
    have e2 : q * v0 % W = lo (q * v0) := rfl
    rw [e1, e2] at HT
    by_cases hs : q * v0 ≤ rest * W + u0
    · have HE : Hid (g = q) := by show _ = _; rw [HG.out]; exact hI.out.1.stop HV.out hs
      have hd := HT.out.2 hs
      clear e1 e2 HT hs
      generalize hi (q * v0) = a at *
      generalize lo (q * v0) = b at *
      rcases hd with hd | ⟨hd, hd2⟩
      · have d1 : decide (a < rest) = true := by simpa using hd
        clear hd
        go_wp2_with fail
        refine C1.out.mono ?_
        rintro e w' ⟨rfl, rfl⟩
        go_wp2
        rw [Exit.noGoto_ret]
        go_ret
        exact ⟨by rw [HE.out]; rfl, rfl⟩
      · subst hd
        have d2 : decide (b ≤ u0) = true := by simpa using hd2
        clear hd2
        go_wp2_with fail
        refine C1.out.mono ?_
        rintro e w' ⟨rfl, rfl⟩
        go_wp2
        rw [Exit.noGoto_ret]
        go_ret
        exact ⟨by rw [HE.out]; rfl, rfl⟩
    · obtain ⟨p, rfl, hI2⟩ := hI.out.1.step HV.out hs
      have hd : ¬ (hi ((p + 1) * v0) < rest ∨ hi ((p + 1) * v0) = rest ∧ lo ((p + 1) * v0) ≤ u0) := fun h => hs (HT.out.1 h)
      have HI2 := Lib.hid hI2
      have HR := Lib.hid hI.out.2
      have a1 := run_add rest v1 w
      have hpW : p < W := hI2.2.2
      have hsum : rest + v1 < W ∧ hi (rest + v1) = 0 ∧ lo (rest + v1) = rest + v1 ∨ W ≤ rest + v1 ∧ hi (rest + v1) = 1 := by
        have h1 := HR.out
        have h2 := HV1.out
        unfold hi lo
        rw [W_eq] at *
        omega
      have q1 := lay (show IntKind.u64.wrap (p : Int) = (p : Int) from wrapN p (by rw [W_eq] at hpW; exact hpW))
      clear e1 e2 HT hs hI hI2 hpW
      generalize hi ((p + 1) * v0) = a at *
      generalize lo ((p + 1) * v0) = b at *
      have d1 : decide (a < rest) = false := by simp; omega
      have hd3 : a = rest ∧ u0 < b ∨ rest < a := by omega
      clear hd
      rcases hd3 with ⟨hd4, hd3⟩ | hd3
      · obtain rfl : rest = a := hd4.symm
        have d2 : decide (b ≤ u0) = false := by simp; omega
        clear hd3
        rcases hsum with ⟨s1, s2, s3⟩ | ⟨s1, s2⟩
        · rw [s2, s3] at a1
          have HS1 := Lib.hid s1
          clear s1 s2 s3
          go_wp2_with fail
          refine C1.out.mono ?_
          rintro e w' ⟨rfl, rfl⟩
          go_wp2
          go_round
          case rel => exact ⟨p, rest + v1, ⟨HI2.out, HS1.out⟩, by go_num, by go_num⟩
          case measure => simp [intOf]
        · rw [s2] at a1
          have HE : Hid (g = p) := by show _ = _; rw [HG.out]; exact HI2.out.over HV.out HV0.out s1
          clear s1 s2
          go_wp2_with fail
          refine C1.out.mono ?_
          rintro e w' ⟨rfl, rfl⟩
          go_wp2
          rw [Exit.noGoto_ret]
          go_ret
          exact ⟨by rw [HE.out]; rfl, rfl⟩
      · have d2 : ((a : Int) == (rest : Int)) = false := by rw [beq_eq_false_iff_ne]; omega
        clear hd3
        rcases hsum with ⟨s1, s2, s3⟩ | ⟨s1, s2⟩
        · rw [s2, s3] at a1
          have HS1 := Lib.hid s1
          clear s1 s2 s3
          go_wp2_with fail
          refine C1.out.mono ?_
          rintro e w' ⟨rfl, rfl⟩
          go_wp2
          go_round
          case rel => exact ⟨p, rest + v1, ⟨HI2.out, HS1.out⟩, by go_num, by go_num⟩
          case measure => simp [intOf]
        · rw [s2] at a1
          have HE : Hid (g = p) := by show _ = _; rw [HG.out]; exact HI2.out.over HV.out HV0.out s1
          clear s1 s2
          go_wp2_with fail
          refine C1.out.mono ?_
          rintro e w' ⟨rfl, rfl⟩
          go_wp2
          rw [Exit.noGoto_ret]
          go_ret
          exact ⟨by rw [HE.out]; rfl, rfl⟩
/-- the digit that is guessed: right, or 1 too great -/
theorem guess_any {u2 u1 u0 v1 v0 : Nat} {w : World} (hv : 0 < v1) (hv1 : v1 < W) (hv0 : v0 < W) (h1 : u1 < W) (hu : u0 < W) (h2 : u2 ≤ v1) :
    Calls Tryz.prog 171 #[.int .u64 (u2 : Int), .int .u64 (u1 : Int), .int .u64 (u0 : Int), .int .u64 (v1 : Int), .int .u64 (v0 : Int)] w (Keeps (.int .u64 ((gq ((u2 * W + u1) * W + u0) (v1 * W + v0) : Nat) : Int)) w) := by
  rcases Nat.lt_or_ge u2 v1 with h | h
  · have d1 : decide (v1 ≤ u2) = false := by simp; omega
    have HD := Lib.hid (CorI.div (T := u2 * W + u1) (u0 := u0) (v1 := v1) (v0 := v0) hv hu ((Nat.div_lt_iff_lt_mul hv).2 (by
      have := Nat.mul_le_mul_right W (show u2 + 1 ≤ v1 by omega)
      rw [Nat.add_mul, Nat.mul_comm v1] at this
      omega)))
    have HM := Lib.hid (Nat.lt_trans (Nat.mod_lt (u2 * W + u1) hv) hv1)
    have C := Lib.hid (div64_any (w := w) (h := u2) (l := u1) (y := v1) rfl rfl rfl h h1 hv1)
    have HC := fun w => Lib.hid (correct_any (w := w) HD.out HM.out hv hv1 hv0 hu)
    clear HD HM hv hv1 hv0 h1 hu h2 h
    generalize (u2 * W + u1) / v1 = a at *
    generalize (u2 * W + u1) % v1 = b at *
    generalize gq ((u2 * W + u1) * W + u0) (v1 * W + v0) = g at *
    go_enter Tryz.func171, Tryz.ntmps171
    go_wp2_with fail
    refine C.out.mono ?_
    rintro e w1 ⟨rfl, hb1⟩
    go_wp2_with fail
    refine (HC w1).out.mono ?_
    rintro e w' ⟨rfl, rfl⟩
    go_wp2
    go_ret
    exact ⟨rfl, hb1⟩
  · obtain rfl : u2 = v1 := by omega
    have HD := Lib.hid (CorI.top (u2 := u2) (u1 := u1) (u0 := u0) (v0 := v0) rfl hv1)
    have a1 := run_add u1 u2 w
    have hsum : u1 + u2 < W ∧ hi (u1 + u2) = 0 ∧ lo (u1 + u2) = u1 + u2 ∨ W ≤ u1 + u2 ∧ hi (u1 + u2) = 1 := by
      unfold hi lo
      rw [W_eq] at *
      omega
    have EW : Hid (((W - 1 : Nat) : Int) = 18446744073709551615) := rfl
    rcases hsum with ⟨s1, s2, s3⟩ | ⟨s1, s2⟩
    · rw [s2, s3] at a1
      have C := Lib.hid (correct_any (w := w) HD.out s1 hv hv1 hv0 hu)
      rw [EW.out] at C
      clear HD hv hv1 hv0 h1 hu h2 h s1 s2 s3
      generalize gq ((u2 * W + u1) * W + u0) (u2 * W + v0) = g at *
      go_enter Tryz.func171, Tryz.ntmps171
      go_wp2_with fail
      refine C.out.mono ?_
      rintro e w' ⟨rfl, rfl⟩
      go_wp2
      go_ret
      exact ⟨rfl, Below.refl _ _⟩
    · rw [s2] at a1
      have HE : Hid (gq ((u2 * W + u1) * W + u0) (u2 * W + v0) = W - 1) := HD.out.over hv hv0 s1
      clear HD hv hv1 hv0 h1 hu h2 h s1 s2
      go_enter Tryz.func171, Tryz.ntmps171
      go_wp2
      go_ret
      exact ⟨by rw [HE.out, EW.out]; rfl, Below.refl _ _⟩
end Go.Proofs.YtamfhmmcnlollaaGreat
namespace Go.Proofs.YtamfhmmcnlollaaGreat
open Go.RowKit
set_option linter.unusedVariables false

section
variable {k : IntKind} {t dT sT : TypeId} {B n c m c2 : Nat} {w : World} {A A2 : Option Addr} {xs ys : List Nat} {P : Program}
theorem spl_map (f : Nat → Value) (xs ys : List Nat) (j : Nat) : (spl xs j ys).map f = (xs.map f).take j ++ ys.map f ++ (xs.map f).drop (j + ys.length) := by
  simp [spl, List.map_append, List.map_take, List.map_drop]
theorem take_splice {cur cs : List Value} {off m : Nat} (h : off + cs.length ≤ m) (hm : m ≤ cur.length) : (splice cur off cs).take m = (cur.take m).take off ++ cs ++ (cur.take m).drop (off + cs.length) := by
  rw [splice, ← List.append_assoc]
  have hl : (cur.take off ++ cs).length = off + cs.length := by rw [List.length_append, List.length_take]; omega
  rw [List.take_append, List.take_of_length_le (by omega), hl, List.take_take, Nat.min_eq_left (by omega), List.drop_take]
/-- copy onto an own slice, from place off on -/
theorem wpList_cp {ops : Array Oper} {rest : List Oper} {o : Oper} {a : Act} {Q : Exit → Act → World → Prop} {g off dLen dCap : Nat} (hgd : o.guard = none) (d s : Operand)
    (ho : o.op = .call { callee := .builtin .copy, args := #[d, s], argTypes := #[dT, sT] }) (he : Elem P dT t k)
    (hd : a.eval d = .slice (some ⟨g, off, none⟩) dLen dCap) (hs : a.eval s = .slice A2 m c2) (hown : Own k t B w (some ⟨g, 0, none⟩) n c xs) (hr : Rd k w A2 m c2 ys) (hm : m ≤ dLen) (hfit : off + m ≤ n)
    (h : ∀ w', Own k t B w' (some ⟨g, 0, none⟩) n c (spl xs off ys) → Grow (some g) w w' → wpList P ops Q rest (a.put o.dst (goInt m)) w') : wpList P ops Q (o :: rest) a w := by
  obtain ⟨hT, hinfo⟩ := he
  have hsz : (P.info? t).map (·.size) = some 1 := by
    cases hi : P.info? t with
    | none => rw [hi] at hinfo; cases hinfo
    | some i => rw [hi] at hinfo; simp at hinfo ⊢; exact hinfo.2.1
  have hxl := hown.len
  have hyl := hr.len
  by_cases h0 : m = 0
  · subst h0
    have hy0 : ys = [] := List.eq_nil_of_length_eq_zero hyl
    refine wpList_copy_nothing hgd d s dT sT ho t hT hsz (some ⟨g, off, none⟩) A2 dLen dCap 0 c2 hd hs (Nat.zero_min _) ?_
    refine h w ?_ (Grow.refl _ _)
    rw [hy0, spl]
    simpa using hown
  rcases hown.2 with ⟨h2, h3⟩ | ⟨g', cap, cur, hv, hBg, hh, hnc, hcm, hcs, htk⟩
  · cases h2
  · injection hv with e1 _ e2
    injection e1 with e1
    injection e1 with e1
    subst e1 e2
    rw [Nat.mul_one] at hcs htk
    have hcl : cur.toList.length = c := by simpa using hcs
    obtain ⟨b, o2, e, _, hc⟩ := hr.2 (by omega)
    subst e
    have hlen : (ys.map (iv k)).length = m := by simp [hyl]
    have hsrc : ∀ j v, (ys.map (iv k))[j]? = some v → w.cell? ((⟨b, o2, none⟩ : Addr).add j) = some v := by
      intro j v hj
      rw [List.getElem?_map] at hj
      obtain ⟨x, hx, rfl⟩ := Option.map_eq_some_iff.1 hj
      have hlt : j < ys.length := (List.getElem?_eq_some_iff.1 hx).1
      rw [addo, hc j (by omega), nth, hx]
      rfl
    refine wpList_copy_own hgd d s dT sT ho t hT hsz g off dLen dCap ⟨b, o2, none⟩ m c2 hd hs cur t hh (ys.map (iv k)) (by rw [hlen]; exact (Nat.min_eq_left hm).symm) hsrc (by rw [hlen]; omega) (iv_one k ys) ?_
    rw [hlen]
    refine h _ ⟨by simp [spl_len (xs := xs) (ys := ys) (j := off) (by omega), hxl], .inr ⟨g, c, (splice cur.toList off (ys.map (iv k))).toArray, rfl, hBg, ?_, hnc, hcm, ?_, ?_⟩⟩ ⟨rfl, rfl, rfl, by simp [World.setRow], fun k hk hne => setRow_other w g k _ (by rintro rfl; exact hne rfl)⟩
    · rw [setRow_heap w g _ _ t _ hh, splice, hlen]
    · simp [splice, hcl]
      omega
    · rw [List.toList_toArray, Nat.mul_one, take_splice (by omega) (by omega), htk, spl_map]
      simp
/-- an own slice in another block than the one that has turned -/
theorem Own.grow {g g' : Nat} {w' : World} (h : Own k t B w (some ⟨g, 0, none⟩) n c xs) (hg : Grow (some g') w w') (hne : g ≠ g') : Own k t B w' (some ⟨g, 0, none⟩) n c xs :=
  World.ownsRow.kept h hg (.inr (by simp [Value.ownBlock]; exact hne))
theorem Grow.below_of {g : Nat} {w' : World} (h : Grow (some g) w w') (hB : B ≤ g) (hs : B ≤ w.heap.size) : Below B w w' :=
  (Below.refl _ _).grown h hs (fun k hk => by injection hk with hk; omega)
end

/-- slices.Grow of nil -/
def GGrow (w : World) (n : Nat) (e : Ending) (w' : World) : Prop := ∃ A c, e = .returned (.slice A 0 c) ∧ Own .u64 41 w.heap.size w' A 0 c [] ∧ Below w.heap.size w w'
theorem below_drew_alloc (w : World) (o : Obj) : Below w.heap.size w (w.drew.alloc o) := ((Below.refl _ _).drew).alloc (Nat.le_refl _) o
set_option maxHeartbeats 1000000 in
theorem growN_any {n : Nat} {n' : Int} {w : World} (en : n' = (n : Int)) (hn : n ≤ 549755813888) : Calls Tryz.prog 187 #[.slice none 0 0, .int .i64 n'] w (GGrow w n) := by
  subst en
  by_cases h0 : n = 0
  · subst h0
    go_enter Tryz.func187, Tryz.ntmps187
    go_wp2
    go_ret
    exact ⟨none, 0, rfl, Own.nil, Below.refl _ _⟩
  · obtain ⟨hT, hinfo⟩ := elN
    obtain ⟨i, hi, hz, hs, hb⟩ := info_parts hinfo
    have hrun := fun (ty : TypeId) => Lib.run_append_nil_zeros (P := Tryz.prog) w 23 3 ty 41 i (.int .u64 0) .i64 .i64 hT Tryz.underlying3 hi hz n (by omega) (by rw [hs]; omega) (by omega) (by rw [hb]; omega)
    have hge := grownCap_ge w n 0 41
    have hle := grownCap_le_maxLen w n 0 41 (by simp only [maxLen]; omega)
    generalize grownCap w n 0 41 = cap at *
    have hown : Hid (Own .u64 41 w.heap.size (w.drew.alloc (.cells (Builtin.zeroCells (Value.int .u64 0).cells n ++ Builtin.zeroCells (Value.int .u64 0).cells (cap - n)) 41)) (some ⟨w.heap.size, 0, none⟩) 0 cap []) := by
      refine ⟨rfl, .inr ⟨w.heap.size, cap, _, rfl, Nat.le_refl _, heap_alloc_new _ _, Nat.zero_le _, hle, ?_, by simp⟩⟩
      have e : (Value.int IntKind.u64 0).cells.size = 1 := rfl
      simp only [Array.size_append, size_zeroCells, e]
      omega
    have HR := Lib.hid hrun
    have HC := Lib.hid hle
    have h1 : ¬ ((n : Int) < 0) := by omega
    have h2 : (0 : Int) < (n : Int) := by omega
    have h3 : (0 : Int) ≤ (cap : Int) := by omega
    clear hrun hge hle hi hz hs hb hinfo hT
    go_enter Tryz.func187, Tryz.ntmps187
    go_wp2_with (at_builtin; refine Lib.wpList_append_run _ rfl (.tmp 20) (.tmp 21) _ _ rfl _ _ rfl rfl _ _ (HR.out _) ?_)
    go_ret
    exact ⟨_, _, rfl, hown.out, below_drew_alloc _ _⟩

/-- a slice of slices that read as numbers -/
def RdS (w : World) (A : Option Addr) (n c : Nat) (F : Nat → List Nat) : Prop :=
  n ≤ c ∧ (0 < n → ∃ b off, A = some ⟨b, off, none⟩ ∧ b < w.heap.size ∧ ∀ i, i < n → ∃ A' n' c', w.cell? ⟨b, off + i, none⟩ = some (.slice A' n' c') ∧ Rd .u64 w A' n' c' (F i))
theorem RdS.below {w w' : World} {A : Option Addr} {n c : Nat} {F : Nat → List Nat} (h : RdS w A n c F) (hb : Below w.heap.size w w') : RdS w' A n c F :=
  ⟨h.1, fun hn => by
    obtain ⟨b, off, e, hlt, hc⟩ := h.2 hn
    refine ⟨b, off, e, Nat.lt_of_lt_of_le hlt hb.size, fun i hi => ?_⟩
    obtain ⟨A', n', c', h1, h2⟩ := hc i hi
    exact ⟨A', n', c', (hb.cell (p := ⟨b, off + i, none⟩) hlt).trans h1, h2.below hb⟩⟩
theorem RdS.at {w : World} {A : Option Addr} {n c i : Nat} {F : Nat → List Nat} (h : RdS w A n c F) (hi : i < n) : ∃ b off A' n' c', A = some ⟨b, off, none⟩ ∧ b < w.heap.size ∧ w.cell? ⟨b, off + i, none⟩ = some (.slice A' n' c') ∧ Rd .u64 w A' n' c' (F i) := by
  obtain ⟨b, off, e, hlt, hc⟩ := h.2 (by omega)
  obtain ⟨A', n', c', h1, h2⟩ := hc i hi
  exact ⟨b, off, A', n', c', e, hlt, h1, h2⟩
def flat (F : Nat → List Nat) : Nat → List Nat
  | 0 => []
  | k + 1 => flat F k ++ F k
theorem flat_le (F : Nat → List Nat) {i n : Nat} (h : i ≤ n) : (flat F i).length ≤ (flat F n).length := by
  induction n with
  | zero => obtain rfl : i = 0 := by omega
            exact Nat.le_refl _
  | succ n ih =>
    by_cases hi : i ≤ n
    · have := ih hi
      simp only [flat, List.length_append]
      omega
    · obtain rfl : i = n + 1 := by omega
      exact Nat.le_refl _
set_option maxHeartbeats 1000000 in
theorem concat_any {A : Option Addr} {n c : Nat} {F : Nat → List Nat} {w : World} (h : RdS w A n c F) (hn : n ≤ 1048576) (hl : (flat F n).length ≤ 549755813888) :
    Calls Tryz.prog 170 #[.slice A n c] w (Gives .u64 41 w (flat F n)) := by
  have H := Lib.hid h
  have HE := Lib.hid elN
  have HL := Lib.hid hl
  have HF := Lib.hid (fun i => flat_le F (i := i) (n := n))
  clear h hl
  go_enter Tryz.func170, Tryz.ntmps170
  go_wp2_with fail
  go_loop [3, 11] (fun s i => ∃ k : Nat, k ≤ n ∧ s = .int .i64 (((flat F k).length : Nat) : Int) ∧ i = .int .i64 k) (fun _ i => n - (intOf i).toNat)
  case atStart => exact ⟨0, Nat.zero_le _, rfl, rfl⟩
  case round =>
    obtain ⟨k, hk, rfl, rfl⟩ := hrel
    by_cases hlt : k < n
    · obtain ⟨b, off, A', n', c', rfl, hb, hc, hr⟩ := H.out.at hlt
      have b1 : (flat F k).length ≤ 549755813888 := Nat.le_trans (HF.out k (by omega)) HL.out
      have b2 : (flat F (k + 1)).length ≤ 549755813888 := Nat.le_trans (HF.out (k + 1) (by omega)) HL.out
      have HS : Hid ((flat F (k + 1)).length = (flat F k).length + n') := by show _ = _; rw [flat, List.length_append, hr.len]
      have b3 : (flat F k).length + n' ≤ 549755813888 := by rw [← HS.out]; exact b2
      clear hr b2
      generalize hg : (flat F k).length = s at *
      clear hg
      go_wp2
      go_round
      case rel => exact ⟨k + 1, by omega, by rw [HS.out]; go_num, by go_num⟩
      case measure => simp [intOf]; omega
    · obtain rfl : k = n := by omega
      have b1 := HL.out
      go_wp2_with fail
      refine (growN_any rfl b1).mono ?_
      rintro e w1 ⟨A1, c1, rfl, ho1, hb1⟩
      have HO := Lib.hid (And.intro ho1 hb1)
      clear ho1 hb1
      go_wp2_with fail
      go_loopw [6, 27] (fun v i wr => ∃ (j : Nat) (B : Option Addr) (q e : Nat), Hid (Own .u64 41 w.heap.size wr B q e (flat F j) ∧ Below w.heap.size w wr) ∧ j ≤ k ∧ v = .slice B q e ∧ i = .int .i64 (j : Int)) (fun _ i _ => k - (intOf i).toNat)
      case atStart => exact ⟨0, _, _, _, HO, Nat.zero_le _, rfl, rfl⟩
      case round =>
        obtain ⟨j, B, q, e, hI, hj, rfl, rfl⟩ := hrel
        by_cases hlt : j < k
        · obtain ⟨b, off, A', n', c', rfl, hb, hc, hr⟩ := (H.out.below hI.out.2).at hlt
          have HR := Lib.hid hr
          have hq : q + n' ≤ 549755813888 := by
            have h1 := Nat.le_trans (HF.out (j + 1) (by omega)) HL.out
            rw [flat, List.length_append, hr.len, hI.out.1.len] at h1
            exact h1
          have hsz := hI.out.2.size
          clear hr
          go_wp2_with (at_builtin; (refine wpList_app rfl (.tmp 31) (.tmp 32) rfl HE.out (t := 41) (k := .u64) (B := w.heap.size) rfl rfl hI.out.1 HR.out (by omega) hsz ?_); intro A4 c4 w4 ho4 hb4 _ _)
          have HW := Lib.hid (And.intro ho4 (hI.out.2.trans hb4))
          clear ho4 hb4
          go_roundw
          case rel => exact ⟨j + 1, A4, _, c4, HW, by omega, rfl, by go_num⟩
          case measure => simp [intOf]; omega
        · obtain rfl : j = k := by omega
          go_wp2
          go_ret
          exact ⟨_, _, _, rfl, hI.out.1, hI.out.2⟩
end Go.Proofs.YtamfhmmcnlollaaGreat
