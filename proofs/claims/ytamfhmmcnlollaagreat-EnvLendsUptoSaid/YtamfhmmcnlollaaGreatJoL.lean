/-
  surdref26.set where only names count. slices.Equal at numbers; qpoly.sameRat; slices.EqualFunc at polynomials; qpoly.both, Same; env.equal. env.Over; surdref26.Over. env.Differ, Same; surdref26.Differ, Same. surdref26.Differ; env.Same, surdref26.Same. env.Same, surdref26.Same; EnvJoins, walked.
-/
import Derived.Test.YtamfhmmcnlollaaGreatPutL
namespace Go.Proofs.YtamfhmmcnlollaaGreat
open Go.RowKit
set_option linter.unusedVariables false
set_option linter.unusedSimpArgs false

def OwnN (B L : Nat) (w : World) (h : Hb) (q : Bq) : Prop := h.1 = q.1 ∧ True
def ListN (B L : Nat) (w : World) (A : Option Addr) (n c : Nat) (qs : List Bq) : Prop := ∃ hs, RowK 2 95 B w A n c (hs.flatMap hbv) ∧ All2 (OwnN B L w) hs qs
theorem OwnN.below {B L : Nat} {w w' : World} {h : Hb} {q : Bq} (H : OwnN B L w h q) (hb : Below w.heap.size w w') : OwnN B L w' h q := H
theorem OwnN.grownR {B L : Nat} {w w' : World} {h : Hb} {q : Bq} {vs : List Value} {A2 : Option Addr} {n2 c2 : Nat} (H : OwnN B L w h q) (hr : RowK 2 95 B w A2 n2 c2 vs) (hg : w.grownBy w' (Value.slice A2 n2 c2).ownBlock) : OwnN B L w' h q := H
theorem ListN.below {B L n c : Nat} {w w' : World} {A : Option Addr} {qs : List Bq} (H : ListN B L w A n c qs) (hb : Below w.heap.size w w') : ListN B L w' A n c qs := by
  obtain ⟨hs, h1, h2⟩ := H
  exact ⟨hs, h1.below hb, h2.imp fun _ _ e => e.below hb⟩
theorem ListN.mono {B B' L n c : Nat} {w : World} {A : Option Addr} {qs : List Bq} (H : ListN B L w A n c qs) (hB : B' ≤ B) : ListN B' L w A n c qs := by
  obtain ⟨hs, h1, h2⟩ := H
  exact ⟨hs, h1.mono hB, h2⟩
theorem ListN.len {B L n c : Nat} {w : World} {A : Option Addr} {qs : List Bq} (H : ListN B L w A n c qs) : n = qs.length := by
  obtain ⟨hs, h1, h2⟩ := H
  have := h1.len
  rw [flat2_len hbv hbv_len, h2.1] at this
  omega
theorem ListR.n {B L n c : Nat} {w : World} {A : Option Addr} {qs : List Bq} (H : ListR B L w A n c qs) : ListN B L w A n c qs := by
  obtain ⟨hs, h1, h2⟩ := H
  exact ⟨hs, h1, h2.imp fun _ _ e => ⟨e.1, trivial⟩⟩
def ListNS (B B2 L : Nat) (w : World) (A : Option Addr) (n c : Nat) (qs : List Bq) : Prop := ∃ hs, RowK 2 95 B2 w A n c (hs.flatMap hbv) ∧ All2 (OwnN B L w) hs qs
theorem ListNS.below {B B2 L n c : Nat} {w w' : World} {A : Option Addr} {qs : List Bq} (H : ListNS B B2 L w A n c qs) (hb : Below w.heap.size w w') : ListNS B B2 L w' A n c qs := by
  obtain ⟨hs, h1, h2⟩ := H
  exact ⟨hs, h1.below hb, h2.imp fun _ _ e => e.below hb⟩
theorem ListNS.len {B B2 L n c : Nat} {w : World} {A : Option Addr} {qs : List Bq} (H : ListNS B B2 L w A n c qs) : n = qs.length := by
  obtain ⟨hs, h1, h2⟩ := H
  have := h1.len
  rw [flat2_len hbv hbv_len, h2.1] at this
  omega
end Go.Proofs.YtamfhmmcnlollaaGreat
namespace Go.Proofs.YtamfhmmcnlollaaGreat
open Go.RowKit
set_option linter.unusedVariables false
set_option linter.unusedSimpArgs false
end Go.Proofs.YtamfhmmcnlollaaGreat
namespace Go.Proofs.YtamfhmmcnlollaaGreat
open Go.RowKit
set_option linter.unusedVariables false
set_option linter.unusedSimpArgs false

theorem ofqa_snoc {acc : List Bq} {bs : List Bn} {i : Nat} {b : Bn} (h : bs[i]? = some b) : ofq acc (bs.take (i + 1)) = insq (ofq acc (bs.take i)) (b.1, pn b.2) := by
  unfold ofq
  rw [take_snoc h, List.foldl_append]
  rfl
theorem ofqa_take (acc : List Bq) (bs : List Bn) (i : Nat) : (ofq acc (bs.take i)).length ≤ (ofq acc bs).length := by
  have h := ofq_len (bs.drop i) (ofq acc (bs.take i))
  have e : ofq (ofq acc (bs.take i)) (bs.drop i) = ofq acc bs := by
    unfold ofq
    rw [← List.foldl_append, List.take_append_drop]
  rwa [e] at h
def ovc (a b : List Bn) : Int := if goodl a = true then (if goodl b = true then (if 64 < (ofq (a.map fq) b).length then 12 else 0) else 3) else 3
def ovq (a b : List Bn) : List Bq := if ovc a b = 0 then ofq (a.map fq) b else []
section
variable {a b : List Bn}
theorem ovc_a (h : goodl a = false) : ovc a b = 3 := by unfold ovc; rw [if_neg (by rw [h]; decide)]
theorem ovc_b (h : goodl a = true) (h2 : goodl b = false) : ovc a b = 3 := by unfold ovc; rw [if_pos h, if_neg (by rw [h2]; decide)]
theorem ovc_many (h : goodl a = true) (h2 : goodl b = true) (h3 : 64 < (ofq (a.map fq) b).length) : ovc a b = 12 := by unfold ovc; rw [if_pos h, if_pos h2, if_pos h3]
theorem ovc_ok (h : goodl a = true) (h2 : goodl b = true) (h3 : (ofq (a.map fq) b).length ≤ 64) : ovc a b = 0 := by unfold ovc; rw [if_pos h, if_pos h2, if_neg (by omega)]
theorem ovq_no (h : ovc a b ≠ 0) : ovq a b = [] := if_neg h
theorem ovq_ok (h : ovc a b = 0) : ovq a b = ofq (a.map fq) b := if_pos h
theorem good_le (h : goodl a = true) : a.length ≤ 64 := (okAt_all h).2
theorem good_at0 {i : Nat} {r : Bn} (h : goodl a = true) (he : a[i]? = some r) : rightc r = 0 := by
  have h1 := good_right h (List.getElem?_eq_some_iff.1 he).1
  rwa [bnat_of he] at h1
end
def GEO (w : World) (L : Nat) (a b : List Bn) (e : Ending) (w' : World) : Prop :=
  Below w.heap.size w w' ∧ ∃ A n c, e = .returned (.tuple #[.slice A n c, .int .i64 (ovc a b)]) ∧ ListO w.heap.size L w' A n c (ovq a b)
set_option maxHeartbeats 8000000 in
theorem eover_any {L n c n2 c2 : Nat} {A A2 : Option Addr} {xs bs : List Bn} {w : World} (h : ListI L w (.slice A n c) xs) (h2 : ListI L w (.slice A2 n2 c2) bs) (hL1 : 1 ≤ L) (hL : L ≤ 268435456) (hn : n ≤ 1073741824) (hn2 : n2 ≤ 1073741824) :
    Calls Tryz.prog 27 #[.slice A n c, .slice A2 n2 c2] w (GEO w L xs bs) := by
  have H := Lib.hid h
  have H2 := Lib.hid h2
  have HN1 : Hid (n = xs.length) := h.len.1
  have HN2 : Hid (n2 = bs.length) := h2.len.1
  have CA := Lib.hid (egood_any h hL1 hL hn)
  have CB := Lib.hid fun w' (hb : Below w.heap.size w w') => egood_any (h2.below hb) hL1 hL hn2
  clear h h2
  rcases Bool.eq_false_or_eq_true (goodl xs) with hg | hg
  · rw [hg] at CA
    have HGA := Lib.hid hg
    clear hg
    rcases Bool.eq_false_or_eq_true (goodl bs) with hg | hg
    · rw [hg] at CB
      have HGB := Lib.hid hg
      clear hg
      go_enter Tryz.func27, Tryz.ntmps27
      go_wp2_with fail
      refine (CA.out).mono ?_
      rintro e w1 ⟨rfl, hb1⟩
      go_wp2_with fail
      refine (CB.out _ hb1).mono ?_
      rintro e w2 ⟨rfl, hb2⟩
      have HBC : Hid (w.heap.size ≤ w2.heap.size) := (bt hb1 hb2).size
      go_wp2_with fail
      refine (ecopied_any ((H.out.below hb1).below hb2) (good_pos HGA.out) hL1 hL hn).mono ?_
      rintro e w5 ⟨A5, c5, rfl, lo5, hb5⟩
      have HL5 := Lib.hid (lo5.mono HBC.out)
      have HB5 : Hid (Below w.heap.size w w5) := (bt (bt hb1 hb2) hb5)
      clear lo5 hb5
      go_wp2
      go_loopw [6, 22] (fun ov kv wr => ∃ (j m : Nat) (A' : Option Addr) (c' : Nat), Hid (Below w.heap.size w wr ∧ ListO w.heap.size L wr A' m c' (ofq (xs.map fq) (bs.take j))) ∧ j ≤ n2 ∧ m ≤ 64 ∧ ov = .slice A' m c' ∧ kv = .int .i64 (j : Int)) (fun _ kv _ => n2 - (intOf kv).toNat)
      case atStart => exact ⟨0, n, A5, c5, ⟨HB5.out, by simpa [ofq] using HL5.out⟩, Nat.zero_le _, by have := good_le HGA.out; have := HN1.out; omega, rfl, rfl⟩
      case round =>
        obtain ⟨j, m, A', c', hI, hj, hm, rfl, rfl⟩ := hrel
        by_cases hlt2 : j < n2
        · obtain ⟨b, off, A1, n1, c1, r, e, hb, eq, h0, h1, h3, h4, h5⟩ := (H2.out.below hI.out.1).at (i := j) (by have := HN2.out; omega)
          have HQ := Lib.hid eq
          have HP := Lib.hid h3
          have HS := Lib.hid h4
          clear eq h3 h4
          subst e
          have i1 : (0 : Int) ≤ (j : Int) := by omega
          have i2 : (j : Int) < (n2 : Int) := by omega
          have x0 := h0.1
          have x1 := h1.1
          have hr0 : rightc r = 0 := good_at0 HGB.out HQ.out
          have HRI : Hid (Rises (ofq (xs.map fq) (bs.take j))) := ofq_rises _ _ (goodl_rises HGA.out)
          have HML : Hid (m = (ofq (xs.map fq) (bs.take j)).length) := hI.out.2.len
          have C := Lib.hid (put_any (B := w.heap.size) (t := r.1) (w := World.alloc wr (.cells #[.string r.1, .slice A1 n1 c1] 57)) (hI.out.2.below (belowA _ _)) (HP.out.below (belowA _ _)) (fitc_pos (rightc_zero hr0).2) HS.out (fun a b h1 h2 h3 => rises_mono HRI.out r.1 h1 (by have := HML.out; omega) h3) hm hL1 hL (by omega) (by have := hI.out.1.size; simp; omega))
          have HBA : Hid (Below w.heap.size w (World.alloc wr (.cells #[.string r.1, .slice A1 n1 c1] 57))) := bt hI.out.1 (belowA _ _)
          have HSN : Hid (ofq (xs.map fq) (bs.take (j + 1)) = insq (ofq (xs.map fq) (bs.take j)) (r.1, pn r.2)) := ofqa_snoc HQ.out
          clear h0 h1 hr0 hI
          go_wp2_with fail
          refine C.out.mono ?_
          rintro e w1 hgp
          obtain ⟨hb1, hcase⟩ := gput_out hgp HML.out hm
          have HB : Hid (Below w.heap.size w w1) := HBA.out.trans hb1
          clear hb1 x0 x1 C hgp
          rcases hcase with ⟨hle, A4, n4, c4, rfl, hl⟩ | ⟨hgt, rfl⟩
          · have HN : Hid (Below w.heap.size w w1 ∧ ListO w.heap.size L w1 A4 n4 c4 (ofq (xs.map fq) (bs.take (j + 1)))) := ⟨HB.out, by rw [HSN.out]; exact hl⟩
            have hn4 : n4 ≤ 64 := by rw [hl.len]; exact hle
            clear hl hle
            go_wp2
            go_roundw
            case rel => exact ⟨j + 1, n4, A4, c4, HN, by omega, hn4, rfl, by go_num⟩
            case measure => simp [intOf]; omega
          · have HC : Hid (ovc xs bs = 12) := ovc_many HGA.out HGB.out (by
              have h6 := ofqa_take (xs.map fq) bs (j + 1)
              rw [HSN.out] at h6
              omega)
            have HPL : Hid (ovq xs bs = []) := ovq_no (by rw [HC.out]; decide)
            clear hgt
            go_wp2
            go_ret2
            exact ⟨HB.out, none, 0, 0, by rw [HC.out]; rfl, by rw [HPL.out]; exact ListO.nil⟩
        · obtain rfl : j = n2 := by omega
          have hfl : ListO w.heap.size L wr A' m c' (ofq (xs.map fq) bs) := by
            have h6 := hI.out.2
            rwa [List.take_of_length_le (by have := HN2.out; omega)] at h6
          have HC : Hid (ovc xs bs = 0) := ovc_ok HGA.out HGB.out (by rw [← hfl.len]; exact hm)
          have HPL : Hid (ovq xs bs = ofq (xs.map fq) bs) := ovq_ok HC.out
          have HR := Lib.hid (And.intro hI.out.1 hfl)
          clear hI hfl
          go_wp2
          go_ret2
          exact ⟨HR.out.1, A', m, c', by rw [HC.out]; rfl, by rw [HPL.out]; exact HR.out.2⟩
    · rw [hg] at CB
      have HC : Hid (ovc xs bs = 3) := ovc_b HGA.out hg
      have HPL : Hid (ovq xs bs = []) := ovq_no (by rw [HC.out]; decide)
      clear hg
      go_enter Tryz.func27, Tryz.ntmps27
      go_wp2_with fail
      refine (CA.out).mono ?_
      rintro e w3 ⟨rfl, hb3⟩
      go_wp2_with fail
      refine (CB.out _ hb3).mono ?_
      rintro e w4 ⟨rfl, hb4⟩
      have HB := Lib.hid (bt hb3 hb4)
      go_wp2
      go_ret2
      exact ⟨HB.out, none, 0, 0, by rw [HC.out]; rfl, by rw [HPL.out]; exact ListO.nil⟩
  · rw [hg] at CA
    have HC : Hid (ovc xs bs = 3) := ovc_a hg
    have HPL : Hid (ovq xs bs = []) := ovq_no (by rw [HC.out]; decide)
    clear hg
    go_enter Tryz.func27, Tryz.ntmps27
    go_wp2_with fail
    refine (CA.out).mono ?_
    rintro e w5 ⟨rfl, hb5⟩
    have HB := Lib.hid hb5
    go_wp2
    go_ret2
    exact ⟨HB.out, none, 0, 0, by rw [HC.out]; rfl, by rw [HPL.out]; exact ListO.nil⟩
end Go.Proofs.YtamfhmmcnlollaaGreat
namespace Go.Proofs.YtamfhmmcnlollaaGreat
open Go.RowKit
set_option linter.unusedVariables false
set_option linter.unusedSimpArgs false

def dfc (a b : List Bn) : Int := if goodl a = true then (if goodl b = true then 0 else 3) else 3
def dfl (a b : List Bn) : List ByteArray := if dfc a b = 0 then difm (a.map fq) (b.map fq) else []
section
variable {a b : List Bn}
theorem dfc_ok (h : goodl a = true) (h2 : goodl b = true) : dfc a b = 0 := by unfold dfc; rw [if_pos h, if_pos h2]
theorem dfl_ok (h : dfc a b = 0) : dfl a b = difm (a.map fq) (b.map fq) := if_pos h
end
theorem ListI.tail {L n c b off : Nat} {w : World} {x : Bn} {xs : List Bn} (H : ListI L w (.slice (some ⟨b, off, none⟩) n c) (x :: xs)) : ListI L w (.slice (if c = 1 then some ⟨b, off, none⟩ else some ⟨b, off + 2, none⟩) (n - 1) (c - 1)) xs := by
  obtain ⟨_, _, _, hs, e, h1, h2, h3⟩ := H
  injection e with e1 e2 e3
  subst e1 e2 e3
  have hl : hs.length = xs.length + 1 := h3.1
  cases hs with
  | nil => simp at hl
  | cons h hs =>
    have hn : n = xs.length + 1 := by simpa using h2
    refine ⟨_, _, _, hs, rfl, ⟨⟨?_, ?_⟩, fun hn0 => ?_⟩, by omega, by simpa using hl, fun i a r e1 e2 => h3.2 (i + 1) a r (by simpa using e1) (by simpa using e2)⟩
    · have := h1.1.1
      rw [List.flatMap_cons, List.length_append, hbv_len] at this
      omega
    · have := h1.1.2; omega
    · have hc1 : ¬ c = 1 := by have := h1.1.2; omega
      rw [if_neg hc1]
      obtain ⟨b', off', e', hb, hc⟩ := h1.2 (by omega)
      injection e' with e'
      injection e' with e1 e2
      subst e1 e2
      refine ⟨b, off + 2, rfl, hb, fun i hi => ?_⟩
      have := hc (i + 2) (by omega)
      rw [show off + 2 + i = off + (i + 2) by omega, this, List.flatMap_cons, List.getElem?_append_right (by rw [hbv_len]; omega), hbv_len]
      congr 1
theorem ListI.head {L n c : Nat} {A : Option Addr} {w : World} {x : Bn} {xs : List Bn} (H : ListI L w (.slice A n c) (x :: xs)) : ∃ b off A1 n1 c1, A = some ⟨b, off, none⟩ ∧ At w ⟨b, off, none⟩ (.string x.1) ∧ At w ⟨b, off + 1, none⟩ (.slice A1 n1 c1) ∧ PolyI L w (.slice A1 n1 c1) x.2 ∧ n1 ≤ 1073741824 := by
  obtain ⟨b, off, A1, n1, c1, r, e, hb, eq, h0, h1, h3, h4, h5⟩ := H.at (i := 0) (by simp)
  simp only [List.getElem?_cons_zero, Option.some.injEq] at eq
  subst eq
  simp only [Nat.zero_mul, Nat.add_zero] at h0 h1
  exact ⟨b, off, A1, n1, c1, e, h0, h1, h3, h5⟩
theorem difm_eq {x y : Bq} {xs ys : List Bq} (h0 : ¬ bcmp x.1 y.1 < 0) (h : ¬ bcmp y.1 x.1 < 0) (h2 : x.2 = y.2) : difm (x :: xs) (y :: ys) = difm xs ys := by rw [difm, if_neg h0, if_neg h, if_pos h2]
end Go.Proofs.YtamfhmmcnlollaaGreat
namespace Go.Proofs.YtamfhmmcnlollaaGreat
open Go.RowKit
set_option linter.unusedVariables false
set_option linter.unusedSimpArgs false
end Go.Proofs.YtamfhmmcnlollaaGreat
namespace Go.Proofs.YtamfhmmcnlollaaGreat
open Go.RowKit
set_option linter.unusedVariables false
set_option linter.unusedSimpArgs false

def smb (a b : List Bn) : Bool := decide (dfc a b = 0 ∧ (dfl a b).length = 0)
end Go.Proofs.YtamfhmmcnlollaaGreat
