/-
  A literal that floats while another block is written: the relation KC (every block is kept, or it held 0 at its end and is now the row that was to be written).
-/
import Derived.Test.YtfpogghlcodncaaDoorLimM
namespace Go.Proofs.YtfpogghlcodncaaDoor
open Go.RowKit
set_option linter.unusedVariables false
section
variable {P : Program} {l : List Oper} {Q : Exit → Act → World → Prop}
theorem cell_of_block {w w' : World} {i o : Nat} (h : w'.heap[i]? = w.heap[i]?) : w'.cell? ⟨i, o, none⟩ = w.cell? ⟨i, o, none⟩ := by
  unfold World.cell?
  simp only [h]
theorem own_of_block {k : IntKind} {t : TypeId} {B i n c : Nat} {xs : List Nat} {w w' : World} (h : w'.heap[i]? = w.heap[i]?) (o : Own k t B w (some ⟨i, 0, none⟩) n c xs) : Own k t B w' (some ⟨i, 0, none⟩) n c xs := by
  refine ⟨o.1, ?_⟩
  rcases o.2 with ⟨h2, h3⟩ | ⟨g, cap, cur, hv, h1, h2, h3, h4, h5, h6⟩
  · cases h2
  · refine .inr ⟨g, cap, cur, hv, h1, ?_, h3, h4, h5, h6⟩
    injection hv with e1 e2 e3
    injection e1 with e1
    injection e1 with e1
    subst e1
    exact h.trans h2
def KC (t : TypeId) (B n c : Nat) (xs : List Nat) (w w' : World) : Prop := (w'.os = w.os ∧ w'.tape = w.tape ∧ w'.output = w.output) ∧ w.heap.size ≤ w'.heap.size ∧
  ∀ i, i < w.heap.size → w'.heap[i]? = w.heap[i]? ∨ (B ≤ i ∧ w.cell? ⟨i, c - 1, none⟩ = some (iv .u64 0) ∧ Own .u64 t B w' (some ⟨i, 0, none⟩) n c xs ∧ w'.cell? ⟨i, c - 1, none⟩ = some (iv .u64 0))
variable {t : TypeId} {B n c : Nat} {xs : List Nat}
theorem KC.refl (w : World) : KC t B n c xs w w := ⟨⟨rfl, rfl, rfl⟩, Nat.le_refl _, fun _ _ => .inl rfl⟩
theorem KC.trans (a b d : World) (h : KC t B n c xs a b) (k : KC t B n c xs b d) : KC t B n c xs a d :=
  ⟨⟨k.1.1.trans h.1.1, k.1.2.1.trans h.1.2.1, k.1.2.2.trans h.1.2.2⟩, Nat.le_trans h.2.1 k.2.1, fun i hl => by
    rcases h.2.2 i hl with e | ⟨e1, e2, e3, e4⟩ <;> rcases k.2.2 i (Nat.lt_of_lt_of_le hl h.2.1) with f | ⟨f1, f2, f3, f4⟩
    · exact .inl (f.trans e)
    · exact .inr ⟨f1, (cell_of_block e).symm.trans f2, f3, f4⟩
    · exact .inr ⟨e1, e2, own_of_block f e3, (cell_of_block f).trans e4⟩
    · exact .inr ⟨e1, e2, f3, f4⟩⟩
theorem KC.of_grow {a b : World} (h : Grow none a b) : KC t B n c xs a b := by
  obtain ⟨h1, h2, h3, h4, h5⟩ := h
  exact ⟨⟨h1, h2, h3⟩, h4, fun i hl => .inl (h5 i hl (by simp))⟩
theorem KC.kb {a b : World} (h : KC t B n c xs a b) : KB B a b := ⟨h.1, h.2.1, fun i hi hl => by
  rcases h.2.2 i hl with e | ⟨e1, _⟩
  · exact e
  · omega⟩
theorem wp_region_fltRR {id : Nat} {ops : Array Oper} {a : Act} {w : World} (R R1 : World → World → Prop) (hsz : ∀ a b, R1 a b → a.heap.size ≤ b.heap.size) (hreflR : ∀ w, R w w) (htrR : ∀ a b c, R a b → R b c → R a c) (hrefl : ∀ w, R1 w w) (htr : ∀ a b c, R1 a b → R1 b c → R1 a c) (h1R : ∀ a b, R1 a b → R a b) (l : List (Nat × Nat)) (hm : P.follows .mixedOrders = true) (hB : (Region.noSelect ops && decide (reals l = ops.size) && okF .any ops l [] (Array.replicate ops.size false)) = true)
    (h : wpF P ops Q R R1 l (fun _ _ _ => False) a w.drew) : (Code.region id ops true).wp P Q a w := by
  simp only [Bool.and_eq_true, decide_eq_true_eq] at hB
  obtain ⟨⟨hs, hl⟩, hok⟩ := hB
  refine wp_region_any hm (wpAny_onlyN _ _ _ _ (wpAny_of_R (R := R) _ _ _ _ ?_))
  rw [← hl]
  have := okF_sound (P := P) (md := .any) (ops := ops) (Q := Q) (R := R) (R1 := R1) hsz hreflR htrR hrefl htr h1R hs (reals l + l.length) l (reals l) (Array.replicate ops.size false) [] (fun _ _ _ => False) a w.drew w.drew (Nat.le_refl _)
    ⟨by simp [somes], hok, hrefl _, h, fun _ => rfl, by simp, by simp, by simp [keys], by simp [keys], by simp [keys], by simp, by simp⟩
  rw [hl] at this ⊢
  exact this
/-- a block that ends in something else than 0 is kept -/
theorem FOwn.kc {m : Nat} {ys : List Nat} {v : Value} {w w' : World} (h : FOwn .u64 t B m ys v w) (hy : ys[c - 1]? ≠ some 0) (hR : KC t B n c xs w w') : FOwn .u64 t B m ys v w' := by
  obtain ⟨A, e, o⟩ := h
  refine ⟨A, e, ?_⟩
  rcases o.2 with ⟨h2, h3⟩ | ⟨g, cap, cur, hv, h1, h2, h3, h4, h5, h6⟩
  · exact ⟨o.1, .inl ⟨h2, h3⟩⟩
  · injection hv with e1 e2 e3
    subst e1 e3
    have hl : g < w.heap.size := (Array.getElem?_eq_some_iff.1 h2).1
    rcases hR.2.2 g hl with e | ⟨f1, f2, f3, f4⟩
    · exact own_of_block e o
    · exfalso
      have hc : cur.toList = ys.map (iv .u64) := by rw [← h6, List.take_of_length_le (by simp [h5])]
      apply hy
      have f5 : cur.toList[c - 1]? = some (iv .u64 0) := by
        unfold World.cell? at f2
        simp only [h2] at f2
        simpa using f2
      rw [hc, List.getElem?_map] at f5
      obtain ⟨y, f6, f7⟩ := Option.map_eq_some_iff.1 f5
      have : y = 0 := by simpa [iv] using f7
      rw [f6, this]
/-- the block that make made: it ends in 0 -/
def ZB (t : TypeId) (B c b : Nat) (w : World) : Prop := ∃ cur, B ≤ b ∧ w.heap[b]? = some (.cells cur t (0, 0)) ∧ cur.size = c ∧ c ≤ maxLen ∧ cur[c - 1]? = some (iv .u64 0)
theorem ZB.cell {b : Nat} {w : World} (h : ZB t B c b w) : w.cell? ⟨b, c - 1, none⟩ = some (iv .u64 0) := by
  obtain ⟨cur, _, h2, _, _, h5⟩ := h
  unfold World.cell?
  simp only [h2]
  simpa using h5
theorem ZB.own {b : Nat} {w : World} (h : ZB t B c b w) : Own .u64 t B w (some ⟨b, 0, none⟩) 0 c [] := by
  obtain ⟨cur, h1, h2, h3, h4, h5⟩ := h
  exact ⟨rfl, .inr ⟨b, c, cur, rfl, h1, h2, Nat.zero_le _, h4, by omega, by simp⟩⟩
theorem ZB.of_own {b m : Nat} {ys : List Nat} {w : World} (o : Own .u64 t B w (some ⟨b, 0, none⟩) m c ys) (h : w.cell? ⟨b, c - 1, none⟩ = some (iv .u64 0)) : ZB t B c b w := by
  rcases o.2 with ⟨h2, h3⟩ | ⟨g, cap, cur, hv, h1, h2, h3, h4, h5, h6⟩
  · cases h2
  · injection hv with e1 e2 e3
    injection e1 with e1
    injection e1 with e1
    subst e1 e3
    refine ⟨cur, h1, h2, by omega, h4, ?_⟩
    unfold World.cell? at h
    simp only [h2] at h
    simpa using h
theorem ZB.kc {b : Nat} {w w' : World} (h : ZB t B c b w) (hR : KC t B n c xs w w') : ZB t B c b w' := by
  obtain ⟨cur, h1, h2, h3, h4, h5⟩ := id h
  rcases hR.2.2 b (Array.getElem?_eq_some_iff.1 h2).1 with e | ⟨f1, f2, f3, f4⟩
  · exact ⟨cur, h1, e.trans h2, h3, h4, h5⟩
  · exact ZB.of_own f3 f4
theorem Own.kc {b : Nat} {w w' : World} (h : Own .u64 t B w (some ⟨b, 0, none⟩) n c xs) (hR : KC t B n c xs w w') : Own .u64 t B w' (some ⟨b, 0, none⟩) n c xs := by
  rcases hR.2.2 b (World.ownsRow.lt h b rfl).2 with e | ⟨f1, f2, f3, f4⟩
  · exact own_of_block e h
  · exact f3
/-- a literal floats -/
theorem flt_litK {R : World → World → Prop} {G : Nat → Value → World → Prop} {i : Nat} {o : Oper} {rest : List (Nat × Nat)} {a : Act} {w : World} {m : Nat} (ys : List Nat) (hy : ys[c - 1]? ≠ some 0) (ho' : opAt l i = some o) (hg : o.guard = none)
    (hrun : ∀ w1, (execOp a.eval o).run P w1 = .ok (.value (.slice (some ⟨w1.heap.size, 0, none⟩) m m)) (w1.alloc (.cells (ys.map (iv .u64)).toArray t))) (hn : ys.length = m) (hl : m ≤ 1000) (hB : B ≤ w.heap.size)
    (h : wpF P l.toArray Q R (KC t B n c xs) rest (fun j => if j = i then FOwn .u64 t B m ys else G j) a w) : wpF P l.toArray Q R (KC t B n c xs) ((2, i) :: rest) G a w := by
  have ho : l.toArray[i]? = some o := (opAt_eq l i).trans ho'
  subst hn
  refine ⟨o, ho, FOwn .u64 t B ys.length ys, fun v w w' hF hR => FOwn.kc hF hy hR, ⟨by simp [Region.wanted, hg], fun w1 h1 => ?_⟩, h⟩
  refine ⟨_, _, hrun w1, KC.of_grow (Grow.of_below ((Below.refl _ _).alloc (Nat.le_refl _) _)), ⟨_, rfl, Own.lit w1 ys (by simp only [maxLen]; omega) (Nat.le_trans hB h1.2.1)⟩, fun p hp => ?_⟩
  injection hp with hp
  subst hp
  exact ⟨Nat.le_refl _, by simp⟩
/-- make with room, while a float may be open -/
theorem flt_makeK {R : World → World → Prop} {G : Nat → Value → World → Prop} {i : Nat} {o : Oper} {rest : List (Nat × Nat)} {a : Act} {w : World} {T : TypeId} {kl kc : IntKind} {C : Int} (x y : Operand) (ho' : opAt l i = some o) (hg : o.guard = none) (hop : o.op = .makeSlice T x y) (he : Elem P T t .u64)
    (hx : a.eval x = .int kl 0) (hy : a.eval y = .int kc C) (hC : C = (c : Int)) (hc : 0 < c) (hn : c ≤ 1099511627776) (hB : B ≤ w.heap.size)
    (h : ∀ b w1 w', KC t B n c xs w w1 → KC t B n c xs w1 w' → ZB t B c b w' → wpF P l.toArray Q R (KC t B n c xs) rest G (a.put o.dst (.slice (some ⟨b, 0, none⟩) 0 c)) w') : wpF P l.toArray Q R (KC t B n c xs) ((1, i) :: rest) G a w := by
  refine flt_act ho' fun w1 hw1 K hK => ?_
  rw [if_pos (by simp [Region.wanted, hg])]
  subst hC
  obtain ⟨w2, hr, ho2, hgr, hb⟩ := Own.zeros (P := P) (B := w1.heap.size) he w1 c hn (Nat.le_refl _) kl kc
  obtain ⟨hT, hinfo⟩ := id he
  obtain ⟨ii, hi, hz, hs, hb8⟩ := info_parts hinfo
  have r0 := run_make (P := P) w1 T t ii _ hT hi hz kl kc 0 c (Int.le_refl _) (by omega) (by rw [hb8]; omega) (by omega)
  have r1 := run_make (P := P) w1 T t ii _ hT hi hz kl kc c c (by omega) (by omega) (by rw [hb8]; omega) (by omega)
  rw [r1] at hr
  simp only [Int.toNat_natCast, Int.toNat_zero] at r0 hr
  injection hr with _ hr
  subst hr
  unfold Oper.wp execOp
  simp only [hop, hx, hy, Sem.run_bind, Sem.run_pure, Result.andThen_ok, r0]
  have k1 : KC t B n c xs w1 (w1.alloc (.cells (madeCells (Value.cells (.int .u64 0)) (c * ii.size)) t)) := KC.of_grow (Grow.of_below hb)
  refine hK _ _ ⟨k1, h _ w1 _ hw1 k1 ?_⟩
  rcases ho2.2 with ⟨h2, h3⟩ | ⟨g, cap, cur, hv, h1, h2, h3, h4, h5, h6⟩
  · cases h2
  · injection hv with e1 e2 e3
    injection e1 with e1
    injection e1 with e1
    subst e1 e3
    refine ⟨cur, Nat.le_trans hB hw1.2.1, h2, by omega, h4, ?_⟩
    have hcur : cur.toList = (List.replicate c 0).map (iv .u64) := by rw [← h6, List.take_of_length_le (by simp [h5])]
    rw [← Array.getElem?_toList, hcur, List.getElem?_map, List.getElem?_replicate, if_pos (by omega)]
    rfl
/-- append with room into the block that make made, while a float may be open -/
theorem flt_roomK {R : World → World → Prop} {G : Nat → Value → World → Prop} {i : Nat} {o : Oper} {rest : List (Nat × Nat)} {a : Act} {w : World} {T : TypeId} {b c2 : Nat} {A2 : Option Addr} (s x : Operand) (ho' : opAt l i = some o) (hg : o.guard = none)
    (hop : o.op = .call { callee := .builtin .append, args := #[s, x], argTypes := #[T, T] }) (he : Elem P T t .u64)
    (hs : a.eval s = .slice (some ⟨b, 0, none⟩) 0 c) (hx : a.eval x = .slice A2 n c2) (hZ : ZB t B c b w) (hr : ∀ w', KB B w w' → Rd .u64 w' A2 n c2 xs) (hlen : n + 1 ≤ c) (hn : c ≤ 1099511627776) (hB : B ≤ w.heap.size)
    (h : ∀ w1 w', KC t B n c xs w w1 → KC t B n c xs w1 w' → Own .u64 t B w' (some ⟨b, 0, none⟩) n c xs → wpF P l.toArray Q R (KC t B n c xs) rest G (a.put o.dst (.slice (some ⟨b, 0, none⟩) n c)) w') : wpF P l.toArray Q R (KC t B n c xs) ((1, i) :: rest) G a w := by
  refine flt_act ho' fun w1 hw1 K hK => ?_
  rw [if_pos (by simp [Region.wanted, hg])]
  have z1 := hZ.kc hw1
  have r1 := hr w1 hw1.kb
  obtain ⟨A', c', w', hrun, o2, hbl, hgr, _⟩ := run_app (P := P) o.type he z1.own r1 (by omega) (Nat.le_trans hB hw1.2.1)
  have key : A' = some ⟨b, 0, none⟩ ∧ c' = c ∧ w'.cell? ⟨b, c - 1, none⟩ = some (iv .u64 0) := by
    obtain ⟨hT, hinfo⟩ := id he
    obtain ⟨ii, hi, hz, hsz, hb8⟩ := info_parts hinfo
    rcases A2 with _ | ad
    · have hm : n = 0 := by
        rcases Nat.eq_zero_or_pos n with h0 | h0
        · exact h0
        · obtain ⟨b, off, h, _⟩ := r1.2 h0
          cases h
      subst hm
      have e : (Builtin.append_ #[T, T] o.type #[.slice (some ⟨b, 0, none⟩) 0 c, .slice none 0 c2]).run P w1 = .ok (.slice (some ⟨b, 0, none⟩) 0 c) w1 := by
        simp [Builtin.append_, run_underlying hT, sizeOf, typeInfo, hi, Builtin.lenOf, Builtin.firstCells, storeCells]
      rw [e] at hrun
      injection hrun with h1 h2
      injection h1 with h3 h4 h5
      subst h2 h5
      exact ⟨h3.symm, rfl, z1.cell⟩
    · have hcells : ∀ j u, (xs.map (iv .u64))[j]? = some u → w1.cell? (ad.add j) = some u := by
        intro j u hu
        rw [List.getElem?_map] at hu
        obtain ⟨xv, hxv, rfl⟩ := Option.map_eq_some_iff.1 hu
        have hj : j < xs.length := (List.getElem?_eq_some_iff.1 hxv).1
        rw [r1.len] at hj
        obtain ⟨b, off, h, _, hc⟩ := r1.at hj
        injection h with h
        subst h
        rw [addo, hc, nth, hxv]
        rfl
      obtain ⟨cur, y1, y2, y3, y4, y5⟩ := id z1
      have hc1 : ∀ j, j < c → (w1.cell? ⟨b, j, none⟩).isSome = true := by
        intro j hj
        unfold World.cell?
        simp only [y2]
        simp [y3, hj]
      have hf1 : ∀ j, w1.frozen? ⟨b, j, none⟩ = false := by
        intro j
        unfold World.frozen?
        simp [y2]
      have e := run_append_room_cells (P := P) w1 T o.type t ii hT hi b 0 0 c ad n c2 (xs.map (iv .u64)) (by simp [r1.len, hsz]) hcells (by simp [iv, Value.oneCell']) (by omega) (fun j hj => by
        have : j < n := by simpa [r1.len] using hj
        simpa using hc1 j (by omega)) (fun j hj => by simpa using hf1 j)
      rw [e] at hrun
      injection hrun with h1 h2
      injection h1 with h3 h4 h5
      subst h2 h5
      refine ⟨h3.symm, rfl, ?_⟩
      rw [World.cell?_setCells_out _ _ _ _ _ (fun _ _ => .inr (by simp [r1.len]; omega))]
      exact z1.cell
  obtain ⟨rfl, rfl, hl⟩ := key
  simp only [Nat.zero_add, List.nil_append] at hrun o2
  have k2 : KC t B n c' xs w1 w' := by
    obtain ⟨g1, g2, g3, g4, g5⟩ := hgr
    refine ⟨⟨g1, g2, g3⟩, g4, fun i hi => ?_⟩
    by_cases hib : i = b
    · subst hib
      obtain ⟨cur, y1, _⟩ := id z1
      exact .inr ⟨y1, z1.cell, o2, hl⟩
    · exact .inl (g5 i hi (by simpa [Value.ownBlock] using hib))
  unfold Oper.wp execOp
  simp only [hop, resolve, invoke, builtin, Sem.run_bind, Sem.run_pure, Result.andThen_ok, List.map_toArray, List.map_cons, List.map_nil, hs, hx, hrun]
  exact hK _ _ ⟨k2, h w1 w' hw1 k2 o2⟩
end
end Go.Proofs.YtfpogghlcodncaaDoor
