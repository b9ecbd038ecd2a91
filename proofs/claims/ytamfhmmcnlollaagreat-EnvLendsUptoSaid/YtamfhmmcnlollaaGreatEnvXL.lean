/-
  env.own; slices.Insert at the end; env.put of a name behind all others. env.Put onto no list, env.place and Get of a name that is bound; surdlaw26.awake. surdlaw26.awake; EnvFits. surdlaw26.told, copyList, sameTexts; env.Names, surdref26.Names. EnvForms.
-/
import Derived.Test.YtamfhmmcnlollaaGreatEnvML
namespace Go.Proofs.YtamfhmmcnlollaaGreat
open Go.RowKit
set_option linter.unusedVariables false
set_option linter.unusedSimpArgs false

/-- a row of another type than the block that has turned -/
theorem RowK.other {k s m : Nat} {T T2 : TypeId} {B n c : Nat} {w w' : World} {A : Option Addr} {vs us : List Value} {v : Value} (ho : RowK k T B w A n c vs) (hr : w.ownsRow B T2 s v m us) (hne : T ≠ T2) (hg : w.grownBy w' v.ownBlock) : RowK k T B w' A n c vs := by
  refine World.ownsRow.kept ho hg ?_
  rcases ho.2 with ⟨h1, _⟩ | ⟨g, cap, cur, hv, _, hh, _⟩
  · left; rw [h1]; rfl
  · rcases hr.2 with ⟨h2, _⟩ | ⟨g2, cap2, cur2, hv2, _, hh2, _⟩
    · right; rw [hv, h2]; simp [Value.ownBlock]
    · right
      rw [hv, hv2]
      simp only [Value.ownBlock]
      intro e
      injection e with e
      subst e
      rw [hh] at hh2
      injection hh2 with hh2
      injection hh2 with _ e2 _
      exact hne e2
theorem RowK.ex {k : Nat} {T : TypeId} {B n c : Nat} {w w' : World} {A : Option Addr} {vs : List Value} {S : Nat → Prop} (h : RowK k T B w A n c vs) (hx : Ex S w w') (hs : ∀ b, S b → b < B) : RowK k T B w' A n c vs := by
  have hl := h.lies
  refine ⟨h.1, ?_⟩
  rcases h.2 with h3 | ⟨g, cap, cur, hv, hg, hh, r⟩
  · exact .inl h3
  · refine .inr ⟨g, cap, cur, hv, hg, ?_, r⟩
    rw [hx.block g (Array.getElem?_eq_some_iff.1 hh).1 (fun e => by have := hs _ e; omega)]
    exact hh
theorem PolyS.ex {B L : Nat} {w w' : World} {v : Value} {qs : List Cn} {S T : Nat → Prop} (H : PolyS T B L w v qs) (hx : Ex S w w') (hs : ∀ b, S b → b < B) : PolyS T B L w' v qs := by
  obtain ⟨A, n, c, hr, rfl, h1, h2, h3, h4⟩ := H
  have ho : ∀ {A : Option Addr} {n c : Nat} {xs : List Nat}, Own .u64 41 B w A n c xs → Own .u64 41 B w' A n c xs := fun h => h.ex hx (fun a e hS => by have h5 := h.lies a e; have h6 := hs _ hS; omega)
  exact ⟨A, n, c, hr, rfl, h1.ex hx hs, h2, h3.imp fun _ _ e => ⟨e.1, ⟨ho e.2.1.1, e.2.1.2⟩, ho e.2.2.1, e.2.2.2⟩, h4⟩
abbrev Bq := ByteArray × List Cn
def OwnB (B L : Nat) (w : World) (h : Hb) (q : Bq) : Prop := h.1 = q.1 ∧ PolyO B L w (shv h.2) q.2 ∧ q.1.size ≤ maxLen ∧ h.2.2.1 ≤ 1073741824
/-- a list of bindings of the call's own, in its own form -/
abbrev Zq := Bq × (Nat → Prop)
/-- .. in blocks of its own -/
def OwnZ (B L : Nat) (w : World) (h : Hb) (z : Zq) : Prop := h.1 = z.1.1 ∧ PolyS z.2 B L w (shv h.2) z.1.2 ∧ z.1.1.size ≤ maxLen ∧ h.2.2.1 ≤ 1073741824
/-- all in places of their own -/
def DjZ (zs : List Zq) : Prop := zs.Pairwise fun a b => ∀ k, a.2 k → ¬ b.2 k
def ListZ (T : Nat → Prop) (B L : Nat) (w : World) (A : Option Addr) (n c : Nat) (qs : List Bq) : Prop := ∃ (hs : List Hb) (zs : List Zq), RowK 2 57 B w A n c (hs.flatMap hbv) ∧ All2 (OwnZ B L w) hs zs ∧ zs.map (·.1) = qs ∧ DjZ zs ∧ (∀ z ∈ zs, ∀ b, z.2 b → T b) ∧ ∀ a, A = some a → T a.block
abbrev ListO (B L : Nat) (w : World) (A : Option Addr) (n c : Nat) (qs : List Bq) : Prop := ListZ (fun _ => True) B L w A n c qs
section
variable {T : Nat → Prop} {B B' L n c : Nat} {w w' : World} {A : Option Addr} {h : Hb} {q : Bq} {z : Zq} {qs : List Bq}
theorem PolyS.grown {S : Nat → Prop} {T : TypeId} {s m : Nat} {vs : List Value} {u v : Value} {ps : List Cn} (H : PolyS S B L w v ps) (hr : w.ownsRow B T s u m vs) (hne : 41 ≠ T) (hne2 : 62 ≠ T) (hg : w.grownBy w' u.ownBlock) : PolyS S B L w' v ps := by
  obtain ⟨A, n, c, hs, rfl, h1, h2, h3, h4⟩ := H
  exact ⟨A, n, c, hs, rfl, h1.other hr hne2 hg, h2, h3.imp fun _ _ e => e.grown hr hne hg, h4⟩
theorem OwnB.below (H : OwnB B L w h q) (hb : Below w.heap.size w w') : OwnB B L w' h q := ⟨H.1, H.2.1.below hb, H.2.2⟩
theorem OwnB.mono (H : OwnB B L w h q) (hB : B' ≤ B) : OwnB B' L w h q := ⟨H.1, H.2.1.mono hB, H.2.2⟩
theorem OwnB.grown {vs : List Value} {A2 : Option Addr} {n2 c2 : Nat} (H : OwnB B L w h q) (hr : RowK 2 57 B w A2 n2 c2 vs) (hg : w.grownBy w' (Value.slice A2 n2 c2).ownBlock) : OwnB B L w' h q := ⟨H.1, H.2.1.grown hr (by decide) (by decide) hg, H.2.2⟩
theorem OwnZ.below (H : OwnZ B L w h z) (hb : Below w.heap.size w w') : OwnZ B L w' h z := ⟨H.1, H.2.1.below hb, H.2.2⟩
theorem OwnZ.mono (H : OwnZ B L w h z) (hB : B' ≤ B) : OwnZ B' L w h z := ⟨H.1, H.2.1.mono hB, H.2.2⟩
theorem OwnZ.grown {vs : List Value} {A2 : Option Addr} {n2 c2 : Nat} (H : OwnZ B L w h z) (hr : RowK 2 57 B w A2 n2 c2 vs) (hg : w.grownBy w' (Value.slice A2 n2 c2).ownBlock) : OwnZ B L w' h z := ⟨H.1, H.2.1.grown hr (by decide) (by decide) hg, H.2.2⟩
theorem OwnZ.b (H : OwnZ B L w h z) : OwnB B L w h z.1 := ⟨H.1, H.2.1.o, H.2.2⟩
/-- without the places -/
theorem ListZ.old (H : ListZ T B L w A n c qs) : ∃ hs, RowK 2 57 B w A n c (hs.flatMap hbv) ∧ All2 (OwnB B L w) hs qs := by
  obtain ⟨hs, zs, h1, h2, rfl, _⟩ := H
  refine ⟨hs, h1, by rw [List.length_map]; exact h2.1, fun i hd q e1 e2 => ?_⟩
  rw [List.getElem?_map] at e2
  obtain ⟨z, e3, rfl⟩ := Option.map_eq_some_iff.1 e2
  exact (h2.2 i hd z e1 e3).b
theorem ListZ.o (H : ListZ T B L w A n c qs) : ListO B L w A n c qs := by
  obtain ⟨hs, zs, h1, h2, h3, h4, h5, h6⟩ := H
  exact ⟨hs, zs, h1, h2, h3, h4, fun _ _ _ _ => trivial, fun _ _ => trivial⟩
theorem DjZ.cut {zs : List Zq} (H : DjZ zs) (P : Nat → Prop) : DjZ (zs.map fun z => (z.1, fun b => z.2 b ∧ P b)) := by
  unfold DjZ at *
  rw [List.pairwise_map]
  exact H.imp fun h k h1 h2 => h k h1.1 h2.1
theorem ListZ.cut (H : ListZ T B L w A n c qs) : ListZ (fun b => T b ∧ B ≤ b ∧ b < w.heap.size) B L w A n c qs := by
  obtain ⟨hs, zs, h1, h2, h3, h4, h5, h6⟩ := H
  refine ⟨hs, zs.map fun z => (z.1, fun b => z.2 b ∧ B ≤ b ∧ b < w.heap.size), h1, ⟨by rw [List.length_map]; exact h2.1, fun i hd z e1 e2 => ?_⟩, by rw [List.map_map]; exact h3, h4.cut _, fun z hz b hb => ?_, fun a e => ⟨h6 a e, h1.lies a e⟩⟩
  · rw [List.getElem?_map] at e2
    obtain ⟨z0, e3, rfl⟩ := Option.map_eq_some_iff.1 e2
    have h7 := h2.2 i hd z0 e1 e3
    exact ⟨h7.1, h7.2.1.cut, h7.2.2⟩
  · obtain ⟨z0, hz0, rfl⟩ := List.mem_map.1 hz
    exact ⟨h5 z0 hz0 b hb.1, hb.2⟩
theorem ListZ.below (H : ListZ T B L w A n c qs) (hb : Below w.heap.size w w') : ListZ T B L w' A n c qs := by
  obtain ⟨hs, zs, h1, h2, h3⟩ := H
  exact ⟨hs, zs, h1.below hb, h2.imp fun _ _ e => e.below hb, h3⟩
theorem ListZ.mono (H : ListZ T B L w A n c qs) (hB : B' ≤ B) : ListZ T B' L w A n c qs := by
  obtain ⟨hs, zs, h1, h2, h3⟩ := H
  exact ⟨hs, zs, h1.mono hB, h2.imp fun _ _ e => e.mono hB, h3⟩
theorem ListZ.len (H : ListZ T B L w A n c qs) : n = qs.length := by
  obtain ⟨hs, h1, h2⟩ := H.old
  have := h1.len
  rw [flat2_len hbv hbv_len, h2.1] at this
  omega
theorem ListZ.nam (H : ListZ T B L w A n c qs) : NamL w A n c (qs.map (·.1)) := by
  obtain ⟨hs, h1, h3⟩ := H.old
  refine ⟨hs, h1.rd, List.ext_getElem (by simp [h3.1]) fun i h4 h5 => ?_⟩
  have h6 : i < hs.length := by simpa using h4
  have h7 : i < qs.length := by rw [← h3.1]; exact h6
  have := (h3.2 i _ _ (List.getElem?_eq_getElem h6) (List.getElem?_eq_getElem h7)).1
  simpa using this
/-- as one that comes in -/
def bqo (q : Bq) : Bn := (q.1, q.2.map cfo)
theorem ListZ.inp (H : ListZ T B L w A n c qs) : ListI L w (.slice A n c) (qs.map bqo) := by
  have hl := H.len
  obtain ⟨hs, h1, h3⟩ := H.old
  refine ⟨A, n, c, hs, rfl, h1.rd, by rw [List.length_map]; exact hl, by rw [List.length_map]; exact h3.1, fun i hd r e1 e2 => ?_⟩
  rw [List.getElem?_map] at e2
  obtain ⟨q, e3, e4⟩ := Option.map_eq_some_iff.1 e2
  have h4 := h3.2 i hd q e1 e3
  subst e4
  exact ⟨h4.1, h4.2.1.c.inp, h4.2.2⟩
theorem ListO.nil : ListO B L w none 0 0 [] := ⟨[], [], RowK.nil, All2.nil, rfl, List.Pairwise.nil, fun _ h => absurd h (by simp), fun _ h => nomatch h⟩
end
theorem elBind : ElemK Tryz.prog 44 57 (.agg #[.string ByteArray.empty, .slice none 0 0]) 2 40 := ⟨⟨Tryz.underlying44, by kernel_rfl⟩, rfl, by omega, by omega⟩
set_option maxHeartbeats 1000000 in
theorem eown_any {A : Option Addr} {n c L : Nat} {rs : List Cf} {w : World} (h : PolyI L w (.slice A n c) rs) (hp : ∀ r ∈ rs, 0 < r.2.2) (hL1 : 1 ≤ L) (hL : L ≤ 268435456) (hn : n ≤ 1073741824) :
    Calls Tryz.prog 73 #[.slice A n c] w (fun e w' => ∃ A' n' c', e = .returned (.slice A' n' c') ∧ PolyO w.heap.size L w' (.slice A' n' c') (pn rs) ∧ n' ≤ n ∧ Below w.heap.size w w') := by
  have C := Lib.hid (qpnorm_any h hL1 hL hn)
  have HP := Lib.hid hp
  have HNQ : Hid (n = rs.length) := h.len
  clear h hp
  go_enter Tryz.func73, Tryz.ntmps73
  go_wp2_with fail
  refine C.out.mono ?_
  rintro e wn hg
  rcases hg with ⟨v, rfl, hall, hpo, hbn⟩ | ⟨rfl, hz, hbn⟩
  · obtain ⟨A2, n2, c2, hs0, rfl, hk1, hk2, hk3⟩ := id hpo
    clear hk1 hk2 hk3
    have h2 : n2 ≤ n := by
      have := hpo.len.1
      have h3 := pn_len rs
      have h4 := HNQ.out
      omega
    have HR := Lib.hid (And.intro hpo hbn)
    clear hpo hbn C
    go_wp2
    go_ret
    exact ⟨_, _, _, rfl, HR.out.1, h2, HR.out.2⟩
  · obtain ⟨r, h1, h2⟩ := hz.out
    have := HP.out r h1
    omega
set_option maxHeartbeats 2000000 in
theorem insEnd_any {B n c c2 : Nat} {A A2 : Option Addr} {vs us : List Value} {w : World} (h : RowK 2 57 B w A n c vs) (h2 : RdK 2 w A2 1 c2 us) (hu : ∀ u ∈ us, u.oneCell' = true) (hn : n ≤ 1073741824) (hB : B ≤ w.heap.size) :
    Calls Tryz.prog 120 #[.slice A n c, .int .i64 (n : Int), .slice A2 1 c2] w (fun e w' => ∃ A' c', e = .returned (.slice A' (n + 1) c') ∧ RowK 2 57 B w' A' (n + 1) c' (vs ++ us) ∧ Below B w w' ∧ w.grownBy w' (Value.slice A n c).ownBlock) := by
  have H := Lib.hid h
  have H2 := Lib.hid h2
  have HU := Lib.hid hu
  have HEL := Lib.hid elBind
  have hc : n ≤ c := h.cap
  have hc2 : c ≤ maxLen := by
    rcases h.2 with ⟨h3, _⟩ | ⟨g, cap, cur, hv, hg, hh, hnc, hcm, r⟩
    · injection h3 with _ _ e2; subst e2; exact Nat.zero_le _
    · injection hv with _ _ e; subst e; exact hcm
  have hform : n = 0 ∧ A = none ∨ ∃ g, A = some ⟨g, 0, none⟩ := by
    rcases h.2 with ⟨h3, h4⟩ | ⟨g, cap, cur, hv, hg, hh, hnc, hcm, r⟩
    · injection h3 with e1 _ _; exact .inl ⟨h4, e1⟩
    · injection hv with e1 _ _; exact .inr ⟨g, e1⟩
  clear h h2 hu
  have i1 : (0 : Int) ≤ (n : Int) := by omega
  have i2 : (n : Int) ≤ (c : Int) := by omega
  unfold maxLen at hc2
  rcases hform with ⟨rfl, rfl⟩ | ⟨g, rfl⟩
  · go_enter Tryz.func120, Tryz.ntmps120
    go_wp2_with (at_builtin; (refine wpList_appK rfl (.tmp 23) (.tmp 24) rfl HEL.out (B := B) (us := us) rfl rfl H.out H2.out HU.out (by omega) (by omega) hB ?_); intro A4 c4 w4 ho hb4 hg4; have HN := Lib.hid (And.intro ho (And.intro hb4 hg4)); clear ho hb4 hg4)
    go_ret
    exact ⟨A4, c4, rfl, HN.out.1, HN.out.2.1, HN.out.2.2⟩
  · go_enter Tryz.func120, Tryz.ntmps120
    go_wp2_with (at_builtin; (refine wpList_appK rfl (.tmp 23) (.tmp 24) rfl HEL.out (B := B) (us := us) rfl rfl H.out H2.out HU.out (by omega) (by omega) hB ?_); intro A4 c4 w4 ho hb4 hg4; have HN := Lib.hid (And.intro ho (And.intro hb4 hg4)); clear ho hb4 hg4)
    all_goals
      go_ret
      exact ⟨A4, c4, rfl, HN.out.1, HN.out.2.1, HN.out.2.2⟩
theorem DjZ.snoc {zs : List Zq} {z : Zq} (H : DjZ zs) (hz : ∀ y ∈ zs, ∀ k, y.2 k → ¬ z.2 k) : DjZ (zs ++ [z]) := by
  unfold DjZ at *
  rw [List.pairwise_append]
  exact ⟨H, by simp, fun a ha b hb => by simp at hb; subst hb; exact hz a ha⟩
/-- the list's parts lie below U, the new one's from U on -/
theorem ListO.snoc {B L n c2 U : Nat} {w : World} {A2 : Option Addr} {hs : List Hb} {h : Hb} {q : Bq} {zs : List Zq} (ho : RowK 2 57 B w A2 (n + 1) c2 (hs.flatMap hbv ++ hbv h)) (h2 : All2 (OwnZ B L w) hs zs) (hd : DjZ zs) (hU : ∀ z ∈ zs, ∀ b, z.2 b → b < U) (hc : OwnZ B L w h (q, fun b => U ≤ b)) : ListO B L w A2 (n + 1) c2 (zs.map (·.1) ++ [q]) :=
  ⟨hs ++ [h], zs ++ [(q, fun b => U ≤ b)], by simpa using ho, h2.snoc hc, by simp, hd.snoc (fun y hy k h1 h2 => by have h3 := hU y hy k h1; simp only at h2; omega), fun _ _ _ _ => trivial, fun _ _ => trivial⟩
/-- a polynomial that was just made -/
theorem PolyS.fresh {S : Nat → Prop} {B U L : Nat} {w : World} {v : Value} {qs : List Cn} (H : PolyS S U L w v qs) (hB : B ≤ U) : PolyS (fun b => U ≤ b) B L w v qs := (H.cut.sub fun _ h => h.2.1).mono hB
set_option maxHeartbeats 4000000 in
set_option maxRecDepth 100000 in
/-- a name behind all others -/
theorem putEnd_any {B L n c n2 c2 : Nat} {A A2 : Option Addr} {qs : List Bq} {t : ByteArray} {rs : List Cf} {w : World} (h : ListO B L w A n c qs) (h2 : PolyI L w (.slice A2 n2 c2) rs) (hp : ∀ r ∈ rs, 0 < r.2.2) (ht : t.size ≤ maxLen) (hlt : ∀ k, k < n → bcmp (nat_ (qs.map (·.1)) k) t < 0) (hn : n < 64) (hL1 : 1 ≤ L) (hL : L ≤ 268435456) (hn2 : n2 ≤ 1073741824) (hB : B ≤ w.heap.size) :
    Calls Tryz.prog 62 #[.slice A n c, .agg #[.string t, .slice A2 n2 c2]] w (fun e w' => ∃ A' c', e = .returned (.tuple #[.slice A' (n + 1) c', .int .i64 0]) ∧ ListO B L w' A' (n + 1) c' (qs ++ [(t, pn rs)]) ∧ Below B w w') := by
  have H := Lib.hid h.cut
  have H2 := Lib.hid h2
  have HP := Lib.hid hp
  have HT := Lib.hid ht
  have HLT := Lib.hid hlt
  clear h h2 hp ht hlt
  go_enter Tryz.func62, Tryz.ntmps62
  have x0 := (Cel.box (i := 1) (v := .slice A2 n2 c2) (t := 57) (b := w.heap.size) w #[.string t, .slice A2 n2 c2] rfl (by simp)).1
  go_wp2_with fail
  refine (eown_any (H2.out.below ((Below.refl _ _).alloc (Nat.le_refl _) (.cells #[.string t, .slice A2 n2 c2] 57))) HP.out hL1 hL hn2).mono ?_
  rintro e w1 ⟨A3, n3, c3, rfl, hpo, hn3, hb1⟩
  clear x0
  obtain ⟨c1a, c1b, c1c⟩ := ((Cel.box (i := 0) (v := .string t) (t := 57) (b := w.heap.size) w #[.string t, .slice A2 n2 c2] rfl (by simp)).below hb1)
  obtain ⟨c2a, c2b, c2c⟩ := ((Cel.box (i := 1) (v := .slice A2 n2 c2) (t := 57) (b := w.heap.size) w #[.string t, .slice A2 n2 c2] rfl (by simp)).below hb1)
  have HBq : Hid (Below w.heap.size w (w1.setCell ⟨w.heap.size, 1, none⟩ (.slice A3 n3 c3))) := ((bt ((Below.refl _ _).alloc (Nat.le_refl _) (.cells #[.string t, .slice A2 n2 c2] 57)) hb1)).setCell (p := ⟨w.heap.size, 1, none⟩) (Nat.le_refl _) _
  have HPq : Hid (PolyO w.heap.size L (w1.setCell ⟨w.heap.size, 1, none⟩ (.slice A3 n3 c3)) (.slice A3 n3 c3) (pn rs)) := (hpo.ex (S := fun b => b = w.heap.size) (Ex.setCell _ _ _ _ rfl) (fun b e => by simp; omega)).mono (by simp)
  have F0 : Hid (Cel (w1.setCell ⟨w.heap.size, 1, none⟩ (.slice A3 n3 c3)) ⟨w.heap.size, 0, none⟩ (.string t)) := ((Cel.box (i := 0) (v := .string t) (t := 57) (b := w.heap.size) w #[.string t, .slice A2 n2 c2] rfl (by simp)).below hb1).set (by simp)
  have F1 : Hid (Cel (w1.setCell ⟨w.heap.size, 1, none⟩ (.slice A3 n3 c3)) ⟨w.heap.size, 1, none⟩ (.slice A3 n3 c3)) := ((Cel.box (i := 1) (v := .slice A2 n2 c2) (t := 57) (b := w.heap.size) w #[.string t, .slice A2 n2 c2] rfl (by simp)).below hb1).put
  go_wp2_with fail
  clear c1a c1b c1c c2a c2b c2c
  generalize hWq : w1.setCell ⟨w.heap.size, 1, none⟩ (.slice A3 n3 c3) = wq at HBq HPq F0 F1 ⊢
  clear hWq hpo hb1
  have HLq := Lib.hid (H.out.below HBq.out)
  have HF := Lib.hid (find_any (t := t) HLq.out.nam (by omega) (fun i j h1 h2 h3 => HLT.out i (by omega)))
  refine HF.out.mono ?_
  rintro e w2 ⟨i, rfl, hi, hb2⟩
  obtain rfl : i = n := by
    have h1 := hi.out.1
    have h2 := hi.out.2.2
    rcases Nat.lt_or_ge i n with h3 | h3
    · have h4 := h2 i (Nat.le_refl _) h3
      have h5 := HLT.out i h3
      omega
    · omega
  have hd : decide (i < i) = false := decide_eq_false (Nat.lt_irrefl _)
  rw [hd, Bool.false_and]
  have HB2 := Lib.hid hb2
  have HS2 : Hid (B ≤ w2.heap.size) := by have h1 := HBq.out.size; have h2 := HB2.out.size; show B ≤ _; omega
  clear hi hb2 HF hd
  have d1 : ((i : Int) == 64) = false := by rw [beq_eq_false_iff_ne]; omega
  obtain ⟨x0a, x0b, x0c⟩ := F0.out.below HB2.out
  obtain ⟨x1a, x1b, x1c⟩ := F1.out.below HB2.out
  go_wp2_with fail
  clear x0a x0b x0c x1a x1b x1c
  obtain ⟨hs, zs, k1, k2, k3, k4, k5, _⟩ := HLq.out.below HB2.out
  have HK := Lib.hid k1
  have HK2 := Lib.hid k2
  have HK3 := Lib.hid k3
  have HK4 := Lib.hid k4
  have HK5 : Hid (∀ z ∈ zs, ∀ b, z.2 b → b < w.heap.size) := fun z hz b hb => (k5 z hz b hb).2.2
  clear k1 k2 k3 k4 k5
  refine (insEnd_any (c2 := 1) (HK.out.below (belowA _ _)) (RowK.lit (k := 2) (T := 57) (B := 0) w2 1 [.string t, .slice A3 n3 c3] (by simp) rfl (by omega) (Nat.zero_le _)).rd (by simp [Value.oneCell']) (by omega) (by have := HS2.out; simp; omega)).mono ?_
  rintro e w3 ⟨A4, c4, rfl, ho, hb3, hg3⟩
  have HR : Hid (ListO B L w3 A4 (i + 1) c4 (qs ++ [(t, pn rs)]) ∧ Below B w w3) := by
    have hz : OwnZ B L w3 (t, (A3, n3, c3)) ((t, pn rs), fun b => w.heap.size ≤ b) := OwnZ.grown (z := ((t, pn rs), fun b => w.heap.size ≤ b)) (h := (t, (A3, n3, c3))) ⟨rfl, ((HPq.out.fresh hB).below HB2.out).below (belowA _ _), HT.out, by show n3 ≤ _; omega⟩ (HK.out.below (belowA _ _)) hg3
    refine ⟨by rw [← HK3.out]; exact ListO.snoc (hs := hs) (h := (t, (A3, n3, c3))) ho (HK2.out.imp fun _ _ e => (e.below (belowA _ _)).grown (HK.out.below (belowA _ _)) hg3) HK4.out HK5.out hz, ?_⟩
    · exact ((HBq.out.mono hB).trans (HB2.out.mono (by have := HBq.out.size; omega))).trans (((Below.refl _ _).alloc HS2.out _).trans hb3)
  clear ho hb3 hg3
  go_wp2
  go_ret2
  exact ⟨A4, c4, rfl, HR.out.1, HR.out.2⟩
end Go.Proofs.YtamfhmmcnlollaaGreat
namespace Go.Proofs.YtamfhmmcnlollaaGreat
open Go.RowKit
set_option linter.unusedVariables false
set_option linter.unusedSimpArgs false

theorem u8_trans {a b c : UInt8} (h1 : a < b) (h2 : b < c) : a < c := UInt8.lt_trans h1 h2
theorem cmpB_trans : ∀ (a b c : List UInt8), Lib.compareBytes a b < 0 → Lib.compareBytes b c < 0 → Lib.compareBytes a c < 0
  | [], [], _ => fun h => by simp [Lib.compareBytes] at h
  | _ :: _, [], _ => fun h => by simp [Lib.compareBytes] at h
  | [], _ :: _, [] => fun _ h => by simp [Lib.compareBytes] at h
  | [], _ :: _, _ :: _ => fun _ _ => by simp [Lib.compareBytes]
  | _ :: _, _ :: _, [] => fun _ h => by simp [Lib.compareBytes] at h
  | x :: a, y :: b, z :: c => fun h1 h2 => by
    unfold Lib.compareBytes at h1 h2 ⊢
    by_cases hxy : x < y
    · by_cases hyz : y < z
      · rw [if_pos (u8_trans hxy hyz)]; decide
      · rw [if_neg hyz] at h2
        by_cases hzy : z < y
        · rw [if_pos hzy] at h2; omega
        · have : y = z := UInt8.le_antisymm (UInt8.not_lt.1 hzy) (UInt8.not_lt.1 hyz)
          subst this
          rw [if_pos hxy]; decide
    · rw [if_neg hxy] at h1
      by_cases hyx : y < x
      · rw [if_pos hyx] at h1; omega
      · have : x = y := UInt8.le_antisymm (UInt8.not_lt.1 hyx) (UInt8.not_lt.1 hxy)
        subst this
        rw [if_neg hyx] at h1
        by_cases hyz : x < z
        · rw [if_pos hyz]; decide
        · rw [if_neg hyz] at h2 ⊢
          by_cases hzy : z < x
          · rw [if_pos hzy] at h2; omega
          · rw [if_neg hzy] at h2 ⊢
            exact cmpB_trans a b c h1 h2
theorem bcmp_trans {a b c : ByteArray} (h1 : bcmp a b < 0) (h2 : bcmp b c < 0) : bcmp a c < 0 := cmpB_trans _ _ _ h1 h2
theorem okAt_all {bs : List Bn} (h : goodl bs = true) : (∀ i, i < bs.length → okAt bs i = true) ∧ bs.length ≤ 64 := by
  unfold goodl at h
  rw [Bool.and_eq_true] at h
  exact ⟨fun i hi => List.all_eq_true.1 h.1 i (List.mem_range.2 hi), by simpa using h.2⟩
theorem nat_map {bs : List Bn} {i : Nat} (hi : i < bs.length) : nat_ (bs.map (·.1)) i = (bnat bs i).1 := by
  unfold nat_ bnat
  rw [List.getElem?_map, List.getElem?_eq_getElem hi]
  rfl
theorem goodl_step {bs : List Bn} (h : goodl bs = true) {i : Nat} (hi : i + 1 < bs.length) : bcmp (nat_ (bs.map (·.1)) i) (nat_ (bs.map (·.1)) (i + 1)) < 0 := by
  have := (okAt_all h).1 (i + 1) hi
  rw [okAt_succ, Bool.and_eq_true] at this
  rw [nat_map hi, nat_map (by omega)]
  simpa using this.2
theorem goodl_lt {bs : List Bn} (h : goodl bs = true) {i : Nat} : ∀ {d : Nat}, i + d + 1 < bs.length → bcmp (nat_ (bs.map (·.1)) i) (nat_ (bs.map (·.1)) (i + d + 1)) < 0
  | 0 => fun hd => goodl_step h hd
  | d + 1 => fun hd => bcmp_trans (goodl_lt h (d := d) (by omega)) (goodl_step h hd)
theorem goodl_mono {bs : List Bn} (h : goodl bs = true) (t : ByteArray) {i j : Nat} (hij : i ≤ j) (hj : j < bs.length) (hc : bcmp (nat_ (bs.map (·.1)) j) t < 0) : bcmp (nat_ (bs.map (·.1)) i) t < 0 := by
  rcases Nat.lt_or_ge i j with h1 | h1
  · have := goodl_lt h (i := i) (d := j - i - 1) (by omega)
    rw [show i + (j - i - 1) + 1 = j by omega] at this
    exact bcmp_trans this hc
  · obtain rfl : i = j := by omega
    exact hc
theorem fitc_pos {rs : List Cf} (h : fitc rs = 0) : ∀ r ∈ rs, 0 < r.2.2 := by
  unfold fitc at h
  split at h
  · rename_i h1
    intro r hr
    have := List.all_eq_true.1 h1 r hr
    simpa using this
  · cases h
theorem ListI.nil {L : Nat} {w : World} : ListI L w (.slice none 0 0) [] := ⟨none, 0, 0, [], rfl, RdK.nil, rfl, All2.nil⟩
theorem copiedNil_any (w : World) : Calls Tryz.prog 69 #[.slice none 0 0] w (Keeps (.slice none 0 0) w) := by
  go_enter Tryz.func69, Tryz.ntmps69
  go_wp2
  go_loopw [3, 8] (fun av kv wr => wr = w ∧ av = .slice none 0 0 ∧ kv = .int .i64 0) (fun _ _ _ => 0)
  case atStart => exact ⟨rfl, rfl, rfl⟩
  case round =>
    obtain ⟨rfl, rfl, rfl⟩ := hrel
    go_wp2
    go_ret
    exact ⟨rfl, Below.refl _ _⟩
set_option maxHeartbeats 4000000 in
set_option maxRecDepth 100000 in
theorem putNil_any {L n2 c2 : Nat} {A2 : Option Addr} {t : ByteArray} {rs : List Cf} {w : World} (h2 : PolyI L w (.slice A2 n2 c2) rs) (hr : rightc (t, rs) = 0) (ht : t.size ≤ maxLen) (hL1 : 1 ≤ L) (hL : L ≤ 268435456) (hn2 : n2 ≤ 1073741824) :
    Calls Tryz.prog 25 #[.slice none 0 0, .string t, .slice A2 n2 c2] w (fun e w' => ∃ A' c', e = .returned (.tuple #[.slice A' 1 c', .int .i64 0]) ∧ ListO w.heap.size L w' A' 1 c' [(t, pn rs)] ∧ Below w.heap.size w w') := by
  have H2 := Lib.hid h2
  have HT := Lib.hid ht
  have HR := Lib.hid hr
  have HP : Hid (∀ r ∈ rs, 0 < r.2.2) := fitc_pos (rightc_zero hr).2
  clear h2 ht hr
  have CG := Lib.hid (egood_any (L := L) (ListI.nil (w := w)) hL1 hL (by omega))
  rw [show goodl [] = true from rfl] at CG
  go_enter Tryz.func25, Tryz.ntmps25
  go_wp2_with fail
  refine (CG.out).mono ?_
  rintro e w1 ⟨rfl, hb1⟩
  have CR := Lib.hid (right_any (s := t) (w := (World.alloc w1 (.cells #[.string t, .slice A2 n2 c2] 57))) ((H2.out.below hb1).below ((Below.refl _ _).alloc (Nat.le_refl _) (.cells #[.string t, .slice A2 n2 c2] 57))) HT.out hL1 hL hn2)
  rw [HR.out] at CR
  go_wp2_with fail
  refine CR.out.mono ?_
  rintro e wr2 ⟨rfl, hbr2⟩
  go_wp2_with fail
  have e_f0 := ((At.boxc (i := 0) (v := .string t) (t := 57) (b := w1.heap.size) w1 #[.string t, .slice A2 n2 c2] rfl (by simp)).below hbr2).1
  have g_f0 := At.grow ((At.boxc (i := 0) (v := .string t) (t := 57) (b := w1.heap.size) w1 #[.string t, .slice A2 n2 c2] rfl (by simp)).below hbr2)
  have e_f1 := ((At.boxc (i := 1) (v := .slice A2 n2 c2) (t := 57) (b := w1.heap.size) w1 #[.string t, .slice A2 n2 c2] rfl (by simp)).below hbr2).1
  have g_f1 := At.grow ((At.boxc (i := 1) (v := .slice A2 n2 c2) (t := 57) (b := w1.heap.size) w1 #[.string t, .slice A2 n2 c2] rfl (by simp)).below hbr2)
  refine wp_region_grow none [(true, 0), (true, 2), (false, 1), (false, 3), (true, 4), (true, 5), (true, 6), (true, 7)] (by kernel_rfl) (by kernel_rfl) ?_
  repeat (refine ord_pas (by rfl) (fun K hK => ?_); go_simp; refine hK _ _ (fun w' hw' => (by first | (go_simp; done) | (go_simp; intro hh; cases hh))) ?_; clear hK K)
  (refine ord_call (by rfl) (fun K hK => ?_); go_simp; refine hK _ _ ?_; clear hK K)
  refine (copiedNil_any _).mono ?_
  rintro e w2 ⟨rfl, hb2⟩
  refine ⟨_, rfl, Grow.of_below hb2, ?_⟩
  (refine ord_norm (fun K hK => ?_); go_simp; refine hK _ ?_; clear hK K)
  (refine ord_call (by rfl) (fun K hK => ?_); go_simp; refine hK _ _ ?_; clear hK K)
  have HB0 : Hid (Below w.heap.size w w2) := (bt (bt (bt (bt hb1 ((Below.refl _ _).alloc (Nat.le_refl _) (.cells #[.string t, .slice A2 n2 c2] 57))) hbr2) (Below.refl _ _).drew) hb2)
  refine (putEnd_any (B := w2.heap.size) (L := L) (t := t) (qs := []) ListO.nil (((((H2.out.below hb1).below ((Below.refl _ _).alloc (Nat.le_refl _) (.cells #[.string t, .slice A2 n2 c2] 57))).below hbr2).below (Below.refl _ _).drew).below hb2) HP.out HT.out (fun k hk => absurd hk (Nat.not_lt_zero k)) (by omega) hL1 hL hn2 (Nat.le_refl _)).mono ?_
  rintro e w5 ⟨A', c', rfl, ho, hb5⟩
  refine ⟨_, rfl, Grow.of_below hb5, ?_⟩
  (refine ord_norm (fun K hK => ?_); go_simp; refine hK _ ?_; clear hK K)
  repeat (refine ord_pas (by rfl) (fun K hK => ?_); go_simp; refine hK _ _ (fun w' hw' => (by first | (go_simp; done) | (go_simp; intro hh; cases hh))) ?_; clear hK K)
  refine ord_nil ?_
  have HO := Lib.hid (ho.mono HB0.out.size)
  have HE := Lib.hid (bt HB0.out hb5)
  clear ho hb5
  go_wp2
  go_ret2
  exact ⟨A', c', rfl, HO.out, HE.out⟩
set_option maxHeartbeats 4000000 in
/-- a name that is bound -/
theorem placeYes_any {L n c i : Nat} {A : Option Addr} {bs : List Bn} {t : ByteArray} {w : World} (h : ListI L w (.slice A n c) bs) (hg : goodl bs = true) (ht : nm t = 0) (hts : t.size ≤ maxLen) (hi : i < bs.length) (hit : nat_ (bs.map (·.1)) i = t) (hL1 : 1 ≤ L) (hL : L ≤ 268435456) :
    Calls Tryz.prog 72 #[.slice A n c, .string t] w (Keeps (.tuple #[.int .i64 (i : Int), .int .i64 0]) w) := by
  have H := Lib.hid h
  have HG := Lib.hid hg
  have HNQ : Hid (n = bs.length) := h.len.1
  have hn : n ≤ 64 := by have := (okAt_all hg).2; have := HNQ.out; omega
  have hin : i < n := by have := HNQ.out; omega
  have HIT := Lib.hid hit
  have CG := Lib.hid (egood_any h hL1 hL (by omega))
  rw [hg] at CG
  have CN := Lib.hid fun w' => ename_any t w' hts
  rw [ht] at CN
  clear h hg hit hi ht hts
  go_enter Tryz.func72, Tryz.ntmps72
  go_wp2_with fail
  refine (CG.out).mono ?_
  rintro e w1 ⟨rfl, hb1⟩
  go_wp2_with fail
  refine (CN.out _).mono ?_
  rintro e w2 ⟨rfl, rfl⟩
  go_wp2_with fail
  refine (find_any (t := t) (H.out.below hb1).nam (by omega) (fun a b h1 h2 h3 => goodl_mono HG.out t h1 (by have := HNQ.out; omega) h3)).mono ?_
  rintro e w3 ⟨j, rfl, hj, hb3⟩
  have hz : bcmp (nat_ (bs.map (·.1)) i) t = 0 := bcmp_eq.2 HIT.out
  obtain rfl : j = i := by
    have h1 := hj.out.2.1
    have h2 := hj.out.2.2
    rcases Nat.lt_trichotomy i j with h3 | h3 | h3
    · have := h1 i h3; omega
    · exact h3.symm
    · have h4 := h2 j (Nat.le_refl _) (by omega)
      have h5 := goodl_lt HG.out (i := j) (d := i - j - 1) (by have := HNQ.out; omega)
      rw [show j + (i - j - 1) + 1 = i by omega] at h5
      have h6 : bcmp (nat_ (bs.map (·.1)) j) t < 0 := by rw [HIT.out] at h5; exact h5
      omega
  rw [decide_eq_true hin, decide_eq_true hz]
  have HB := Lib.hid (bt hb1 hb3)
  clear hj hz
  go_wp2
  go_ret2
  exact ⟨rfl, HB.out⟩
set_option maxHeartbeats 4000000 in
theorem getYes_any {L n c i : Nat} {A : Option Addr} {bs : List Bn} {t : ByteArray} {w : World} (h : ListI L w (.slice A n c) bs) (hg : goodl bs = true) (ht : nm t = 0) (hts : t.size ≤ maxLen) (hi : i < bs.length) (hit : nat_ (bs.map (·.1)) i = t) (hL1 : 1 ≤ L) (hL : L ≤ 268435456) :
    Calls Tryz.prog 28 #[.slice A n c, .string t] w (fun e w' => ∃ A' n' c', e = .returned (.tuple #[.slice A' n' c', .int .i64 0]) ∧ PolyO w.heap.size L w' (.slice A' n' c') (pn (bnat bs i).2) ∧ Below w.heap.size w w') := by
  have H := Lib.hid h
  have HNQ : Hid (n = bs.length) := h.len.1
  have hin : i < n := by have := HNQ.out; omega
  have hn : n ≤ 64 := by have := (okAt_all hg).2; have := HNQ.out; omega
  have CP := Lib.hid (placeYes_any h hg ht hts hi hit hL1 hL)
  have HRZ : Hid (rightc (bnat bs i) = 0) := by
    have := (okAt_all hg).1 i hi
    cases i with
    | zero => rw [okAt_zero] at this; show _ = _; simpa using this
    | succ k => rw [okAt_succ, Bool.and_eq_true] at this; show _ = _; simpa using this.1
  obtain ⟨r, er⟩ : ∃ r, bs[i]? = some r := ⟨_, List.getElem?_eq_getElem hi⟩
  rw [bnat_of er] at HRZ ⊢
  have HER := Lib.hid er
  clear h hg hit ht hts er
  go_enter Tryz.func28, Tryz.ntmps28
  go_wp2_with fail
  refine (CP.out).mono ?_
  rintro e w1 ⟨rfl, hb1⟩
  obtain ⟨b, off, A1, n1, c1, r', e, hb, eq, h0, h1, h3, h4, h5⟩ := (H.out.below hb1).at (i := i) hi
  obtain rfl : r = r' := by have := HER.out.symm.trans eq; injection this
  have HP := Lib.hid h3
  subst e
  have i1 : (0 : Int) ≤ (i : Int) := by omega
  have i2 : (i : Int) < (n : Int) := by omega
  have x1 := h1.1
  clear h0 h1 h3 eq
  go_wp2_with fail
  refine (eown_any HP.out (fitc_pos (rightc_zero HRZ.out).2) hL1 hL h5).mono ?_
  rintro e w3 ⟨A', n', c', rfl, hpo, hn', hb3⟩
  have HR := Lib.hid (And.intro (hpo.mono hb1.size) (bt hb1 hb3))
  clear hpo hb3 x1
  go_wp2
  go_ret2
  exact ⟨A', n', c', rfl, HR.out.1, HR.out.2⟩
end Go.Proofs.YtamfhmmcnlollaaGreat
namespace Go.Proofs.YtamfhmmcnlollaaGreat
open Go.RowKit
set_option linter.unusedVariables false
set_option linter.unusedSimpArgs false

abbrev nameP : ByteArray := ⟨#[112]⟩
theorem one_right : rightc (nameP, [(false, 2, 4)]) = 0 := by decide +kernel
theorem one_pn : pn [(false, 2, 4)] = [(1, 2)] := by decide +kernel
theorem one_good : goodl ([((nameP, [(1, 2)]) : Bq)].map bqo) = true := by decide +kernel
theorem one_pn2 : pn (bnat ([((nameP, [(1, 2)]) : Bq)].map bqo) 0).2 = [(1, 2)] := by decide +kernel
theorem one_in (w : World) : PolyI 1 (World.alloc (World.alloc (World.alloc w (.cells #[.int .u64 2] 41)) (.cells #[.int .u64 4] 41)) (.cells #[.bool false, .slice (some ⟨w.heap.size, 0, none⟩) 1 1, .slice (some ⟨w.heap.size + 1, 0, none⟩) 1 1] 62)) (.slice (some ⟨w.heap.size + 2, 0, none⟩) 1 1) [(false, 2, 4)] := by
  have h1 : Num (World.alloc w (.cells #[.int .u64 2] 41)) (.slice (some ⟨w.heap.size, 0, none⟩) 1 1) 2 1 := by
    have := (Num.lit (t := 41) (b := w.heap.size) w [2] rfl (by simp [W_eq, All]))
    simpa [val, iv] using this
  have h2 : Num (World.alloc (World.alloc w (.cells #[.int .u64 2] 41)) (.cells #[.int .u64 4] 41)) (.slice (some ⟨w.heap.size + 1, 0, none⟩) 1 1) 4 1 := by
    have := (Num.lit (t := 41) (b := w.heap.size + 1) (World.alloc w (.cells #[.int .u64 2] 41)) [4] (by simp) (by simp [W_eq, All]))
    simpa [val, iv] using this
  refine ⟨_, 1, 1, [(false, (some ⟨w.heap.size, 0, none⟩, 1, 1), (some ⟨w.heap.size + 1, 0, none⟩, 1, 1))], rfl, ?_, rfl, rfl, ?_⟩
  · exact (RowK.lit (k := 3) (T := 62) (B := 0) (World.alloc (World.alloc w (.cells #[.int .u64 2] 41)) (.cells #[.int .u64 4] 41)) 1 _ (by simp) rfl (by omega) (Nat.zero_le _)).rd
  · intro i h r e1 e2
    rcases i with _ | i
    · simp at e1 e2
      subst e1 e2
      exact ⟨rfl, (h1.below (belowA _ _)).below (belowA _ _), h2.below (belowA _ _)⟩
    · simp at e1
set_option maxHeartbeats 4000000 in
set_option maxRecDepth 100000 in
theorem awake26_any (w : World) : Calls Tryz.prog 16 #[] w (Keeps (.bool true) w) := by
  have CP := Lib.hid (putNil_any (t := nameP) (one_in w) one_right (by decide) (by omega) (by omega) (by omega))
  have HB0 : Hid (Below w.heap.size w (World.alloc (World.alloc (World.alloc w (.cells #[.int .u64 2] 41)) (.cells #[.int .u64 4] 41)) (.cells #[.bool false, .slice (some ⟨w.heap.size, 0, none⟩) 1 1, .slice (some ⟨w.heap.size + 1, 0, none⟩) 1 1] 62))) := (((Below.refl _ _).alloc (Nat.le_refl _) _).alloc (by simp) _).alloc (by simp; omega) _
  go_enter Tryz.func16, Tryz.ntmps16
  go_wp2_with fail
  refine CP.out.mono ?_
  rintro e w1 ⟨A1, c1, rfl, ho, hb1⟩
  rw [one_pn] at ho
  have HO := Lib.hid ho
  have HB1 := Lib.hid (bt HB0.out hb1)
  clear ho hb1 CP
  obtain ⟨b, off, u, e, g0, g1⟩ := HO.out.nam.at (i := 0) (by omega)
  have hnm : nat_ ([((nameP, [(1, 2)]) : Bq)].map (·.1)) 0 = nameP := rfl
  rw [hnm] at g0
  subst e
  have x0 := g0.1
  simp only [Nat.zero_mul, Nat.add_zero] at x0
  go_wp2_with fail
  refine (ename_any ⟨#[120]⟩ _ (by decide)).mono ?_
  rintro e w2 ⟨rfl, rfl⟩
  rw [show nm ⟨#[120]⟩ = 5 by decide]
  go_wp2_with fail
  refine (getYes_any (t := nameP) (i := 0) HO.out.inp one_good (by decide) (by decide) (by decide) rfl (by omega) (by omega)).mono ?_
  rintro e w3 ⟨A3, n3, c3, rfl, hpo, hb3⟩
  clear x0 g0 g1
  rw [one_pn2] at hpo
  have hn3 : n3 = 1 := hpo.len.1
  subst hn3
  obtain ⟨b2, off2, s, B1, m1, d1, B2, m2, d2, q, e, hb, eq, hsr, h0, h1, h2, h3, h4⟩ := hpo.c.at (i := 0) (by decide)
  have hq : q = (1, 2) := by simp at eq; exact eq.symm
  subst hq
  have hdg : dg W (((1, 2) : Cn).2) = [2] := dg_small (by omega) (by rw [W_eq]; omega)
  rw [hdg] at h4
  have hm2 : m2 = 1 := by have := h4.1.len; simpa using this.symm
  subst hm2
  obtain ⟨b3, off3, e3, hb4, hc3⟩ := h4.1.2 (by omega)
  have y0 := hc3 0 (by omega)
  rw [show nth [2] 0 = 2 from rfl, Nat.add_zero] at y0
  subst e e3
  simp only [Nat.zero_mul, Nat.add_zero] at h2
  have HE := Lib.hid (bt HB1.out hb3)
  clear hc3 h3 h4 h0 h1 eq hpo hdg
  go_wp2
  go_ret
  exact ⟨rfl, HE.out⟩
end Go.Proofs.YtamfhmmcnlollaaGreat
namespace Go.Proofs.YtamfhmmcnlollaaGreat
open Go.RowKit
set_option linter.unusedVariables false
set_option linter.unusedSimpArgs false

theorem RdK.at2 {w : World} {A : Option Addr} {n c i : Nat} {hs : List Hb} {h : Hb} (H : RdK 2 w A n c (hs.flatMap hbv)) (hi : hs[i]? = some h) : ∃ b off, A = some ⟨b, off, none⟩ ∧ b < w.heap.size ∧ At w ⟨b, off + i * 2, none⟩ (.string h.1) ∧ At w ⟨b, off + i * 2 + 1, none⟩ (shv h.2) := by
  have hl : hs.length = n := by
    have := H.1.1
    rw [flat2_len hbv hbv_len] at this
    omega
  have hin := (List.getElem?_eq_some_iff.1 hi).1
  obtain ⟨b, off, e, hb, hc⟩ := H.2 (by omega)
  have hf := fun j hj => flat2 hbv hbv_len hs i j h hi hj
  refine ⟨b, off, e, hb, ⟨?_, hb⟩, ⟨?_, hb⟩⟩
  · have := hf 0 (by omega); rw [Nat.add_zero] at this; rw [hc _ (by omega), this]; rfl
  · rw [Nat.add_assoc, hc _ (by omega), hf 1 (by omega)]; rfl
theorem elBindR : ElemK Tryz.prog 51 95 (.agg #[.string ByteArray.empty, .slice none 0 0]) 2 40 := ⟨⟨Tryz.underlying51, by kernel_rfl⟩, rfl, by omega, by omega⟩
set_option maxHeartbeats 4000000 in
theorem told_26 {A : Option Addr} {n c : Nat} {hs : List Hb} {w : World} (h : RdK 2 w A n c (hs.flatMap hbv)) (hn : n ≤ 1073741824) :
    Calls Tryz.prog 20 #[.slice A n c] w (fun e w' => ∃ A' c', e = .returned (.slice A' n c') ∧ RowK 2 95 w.heap.size w' A' n c' (hs.flatMap hbv) ∧ Below w.heap.size w w') := by
  have H := Lib.hid h
  have HL : Hid (hs.length = n) := by
    have := h.1.1
    rw [flat2_len hbv hbv_len] at this
    show _ = _
    omega
  have HEL := Lib.hid elBindR
  clear h
  go_enter Tryz.func20, Tryz.ntmps20
  go_wp2
  go_loopw [3, 9] (fun ov kv wr => ∃ (i : Nat) (A' : Option Addr) (c' : Nat), Hid (RowK 2 95 w.heap.size wr A' i c' ((hs.take i).flatMap hbv) ∧ Below w.heap.size w wr) ∧ i ≤ n ∧ ov = .slice A' i c' ∧ kv = .int .i64 (i : Int)) (fun _ kv _ => n - (intOf kv).toNat)
  case atStart => exact ⟨0, _, _, ⟨by have := RowK.lit (k := 2) (T := 95) (B := w.heap.size) w 0 [] rfl rfl (by omega) (Nat.le_refl _); simpa using this, belowA _ _⟩, Nat.zero_le _, rfl, rfl⟩
  case round =>
    obtain ⟨i, A', c', hI, hi, rfl, rfl⟩ := hrel
    by_cases hlt : i < n
    · obtain ⟨hd, ed⟩ : ∃ hd, hs[i]? = some hd := ⟨_, List.getElem?_eq_getElem (by have := HL.out; omega)⟩
      obtain ⟨b, off, e, hb, h0, h1⟩ := (H.out.below hI.out.2).at2 ed
      have HD := Lib.hid ed
      clear ed
      subst e
      have i1 : (0 : Int) ≤ (i : Int) := by omega
      have i2 : (i : Int) < (n : Int) := by omega
      have x0 := h0.1
      have x1 := h1.1
      obtain ⟨nm0, A1, n1, c1⟩ := hd
      simp only [shv] at x1
      have HZ : Hid (w.heap.size ≤ wr.heap.size) := hI.out.2.size
      clear h0 h1
      go_wp2_with (at_builtin; (refine wpList_appK rfl (.tmp 13) (.tmp 19) rfl HEL.out (B := w.heap.size) (us := [.string nm0, .slice A1 n1 c1]) rfl rfl ((hI.out.1.below (belowA _ _)).below (belowA _ _)) (RowK.lit (k := 2) (T := 95) (B := 0) (World.alloc wr (.cells #[.string nm0, .slice A1 n1 c1] 57)) 1 [.string nm0, .slice A1 n1 c1] (by simp) rfl (by omega) (Nat.zero_le _)).rd (by simp [Value.oneCell']) (by omega) (by omega) (by have := HZ.out; simp; omega) ?_); intro A4 c4 w4 ho hb4 _; have HN : Hid (RowK 2 95 w.heap.size w4 A4 (i + 1) c4 ((hs.take (i + 1)).flatMap hbv) ∧ Below w.heap.size w w4) := ⟨(by rw [take_snoc HD.out, List.flatMap_append]; simpa [hbv, shv] using ho), ((hI.out.2.alloc HZ.out _).alloc (by have := HZ.out; simp; omega) _).trans hb4⟩; clear ho hb4)
      go_roundw
      case rel => exact ⟨i + 1, A4, c4, HN, by omega, rfl, by go_num⟩
      case measure => simp [intOf]; omega
    · obtain rfl : i = n := by omega
      have HR : Hid (RowK 2 95 w.heap.size wr A' i c' (hs.flatMap hbv) ∧ Below w.heap.size w wr) := by
        have h1 := hI.out.1
        rw [List.take_of_length_le (by have := HL.out; omega)] at h1
        exact ⟨h1, hI.out.2⟩
      clear hI
      go_wp2
      go_ret
      exact ⟨A', c', rfl, HR.out.1, HR.out.2⟩
theorem told_any26 {A : Option Addr} {n c L : Nat} {bs : List Bn} {w : World} (h : ListI L w (.slice A n c) bs) (hn : n ≤ 1073741824) :
    Calls Tryz.prog 20 #[.slice A n c] w (fun e w' => ∃ A' c', e = .returned (.slice A' n c') ∧ ListI L w' (.slice A' n c') bs ∧ Below w.heap.size w w') := by
  obtain ⟨_, _, _, hs, e, h1, h2, h3⟩ := h
  injection e with e1 e2 e3
  subst e1 e2 e3
  refine (told_26 h1 hn).mono ?_
  rintro e w' ⟨A', c', rfl, ho, hb⟩
  exact ⟨A', c', rfl, ⟨A', n, c', hs, rfl, ho.rd, h2, h3.imp fun _ _ e => e.below hb⟩, hb⟩
/-- a list of bindings of the call's own, as it came in -/
def OwnW (B L : Nat) (w : World) (h : Hb) (r : Bn) : Prop := h.1 = r.1 ∧ PolyW B L w (shv h.2) r.2 ∧ r.1.size ≤ maxLen ∧ h.2.2.1 ≤ 1073741824
section
variable {B L : Nat} {w w' : World} {h : Hb} {r : Bn}
theorem PolyW.grown {T : TypeId} {s m : Nat} {vs : List Value} {u v : Value} {ps : List Cf} (H : PolyW B L w v ps) (hr : w.ownsRow B T s u m vs) (hne : 41 ≠ T) (hne2 : 62 ≠ T) (hg : w.grownBy w' u.ownBlock) : PolyW B L w' v ps := by
  obtain ⟨A, n, c, hs, rfl, h1, h2, h3⟩ := H
  exact ⟨A, n, c, hs, rfl, h1.other hr hne2 hg, h2, h3.imp fun _ _ e => e.grown hr hne hg⟩
theorem PolyW.mono {B' : Nat} {v : Value} {ps : List Cf} (H : PolyW B L w v ps) (hB : B' ≤ B) : PolyW B' L w v ps := by
  obtain ⟨A, n, c, hs, rfl, h1, h2, h3⟩ := H
  exact ⟨A, n, c, hs, rfl, h1.mono hB, h2, h3.imp fun _ _ e => e.mono hB⟩
theorem OwnW.below (H : OwnW B L w h r) (hb : Below w.heap.size w w') : OwnW B L w' h r := ⟨H.1, H.2.1.below hb, H.2.2⟩
theorem OwnW.grown {vs : List Value} {A2 : Option Addr} {n2 c2 : Nat} (H : OwnW B L w h r) (hr : RowK 2 57 B w A2 n2 c2 vs) (hg : w.grownBy w' (Value.slice A2 n2 c2).ownBlock) : OwnW B L w' h r := ⟨H.1, H.2.1.grown hr (by decide) (by decide) hg, H.2.2⟩
end
def LI (w : World) (L : Nat) (bs : List Bn) (i : Nat) (A' : Option Addr) (c' : Nat) (wr : World) : Prop :=
  (∃ hs : List Hb, RowK 2 57 w.heap.size wr A' i c' (hs.flatMap hbv) ∧ All2 (OwnW w.heap.size L wr) hs (bs.take i)) ∧ Below w.heap.size w wr
theorem LI.below {w wr w' : World} {L i c' : Nat} {bs : List Bn} {A' : Option Addr} (h : LI w L bs i A' c' wr) (hb : Below wr.heap.size wr w') : LI w L bs i A' c' w' := by
  obtain ⟨⟨hs, h1, h2⟩, h4⟩ := h
  exact ⟨⟨hs, h1.below hb, h2.imp fun _ _ e => e.below hb⟩, bt h4 hb⟩
theorem LI.grown {w w' : World} {L i c2 : Nat} {bs : List Bn} {A2 : Option Addr} {hs : List Hb} {h : Hb} {r : Bn} (ho : RowK 2 57 w.heap.size w' A2 (i + 1) c2 (hs.flatMap hbv ++ hbv h)) (h2 : All2 (OwnW w.heap.size L w') hs (bs.take i)) (hc : OwnW w.heap.size L w' h r) (hr : bs[i]? = some r) (hb : Below w.heap.size w w') : LI w L bs (i + 1) A2 c2 w' := by
  refine ⟨⟨hs ++ [h], by simpa using ho, ?_⟩, hb⟩
  rw [take_snoc hr]
  exact h2.snoc hc
end Go.Proofs.YtamfhmmcnlollaaGreat
namespace Go.Proofs.YtamfhmmcnlollaaGreat
open Go.RowKit
set_option linter.unusedVariables false
set_option linter.unusedSimpArgs false
end Go.Proofs.YtamfhmmcnlollaaGreat
