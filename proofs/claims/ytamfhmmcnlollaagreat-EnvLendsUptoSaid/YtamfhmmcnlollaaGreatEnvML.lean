/-
  env.Name, surdref26.Name (as in EnvNames). Lists of bindings. strings.Compare; env.byName, right, Good; surdref26.Good. env.Good, surdref26.Good. slices.BinarySearchFunc at bindings; env.find. surdref26.Good.
-/
import Derived.Test.YtamfhmmcnlollaaGreatRatL
import Derived.WalkSpells
import Derived.WalkLawsBesides
import Derived.ProofKit
import Derived.OpenShut
import Derived.ShutString
import Derived.Lib.Hide
import Derived.Lib.Strings
import Derived.Lib.Slices
import Derived.Lib.Walk
import Derived.Lib.Bytealg
namespace Go.Proofs.YtamfhmmcnlollaaGreat
open Go.RowKit
set_option linter.unusedVariables false

def okcn (n : Int) : Prop := ¬ ((n < 97 ∨ 122 < n) ∧ (n < 48 ∨ 57 < n))
instance (n : Int) : Decidable (okcn n) := by unfold okcn; infer_instance
def goodn (s : ByteArray) : Prop := 0 < s.size ∧ s.data.toList ≠ [120] ∧ (97 ≤ (((s.data[0]?).getD 0).toNat : Int) ∧ (((s.data[0]?).getD 0).toNat : Int) ≤ 122) ∧ ∀ k (_ : k < s.size), okcn (((s.data[k]?).getD 0).toNat : Int)
instance (s : ByteArray) : Decidable (goodn s) := by unfold goodn; infer_instance
def nm (s : ByteArray) : Int := if goodn s then (if 16 < s.size then 10 else 0) else 5

theorem nm_bad (s : ByteArray) (h : ¬ goodn s) : nm s = 5 := if_neg h
theorem nm_long (s : ByteArray) (h : goodn s) (h' : 16 < s.size) : nm s = 10 := by rw [nm, if_pos h, if_pos h']
theorem nm_ok (s : ByteArray) (h : goodn s) (h' : ¬ 16 < s.size) : nm s = 0 := by rw [nm, if_pos h, if_neg h']
theorem at_nm (s : ByteArray) (k : Nat) (h : k < s.size) : (s.data[k]?).getD 0 = s[k] := by
  have : k < s.data.size := h
  simp only [Array.getElem?_eq_getElem this, Option.getD_some]; rfl
theorem empty_nm (s : ByteArray) (h : s.size = 0) : s = ByteArray.empty := by
  obtain ⟨⟨l⟩⟩ := s
  have : l = [] := List.eq_nil_of_length_eq_zero h
  subst this; rfl
theorem lst_nm (s : ByteArray) : s.toList = s.data.toList := ByteArray.toList_eq _
theorem ne_nm (s : ByteArray) (h : 0 < s.size) : s.toList.isEmpty = false := by
  rw [lst_nm]
  cases hl : s.data.toList with
  | nil => have : s.data.toList.length = s.size := rfl; rw [hl] at this; simp at this; omega
  | cons => rfl

set_option maxHeartbeats 400000 in
theorem ename_main (s : ByteArray) (w : World) (hs : s.size ≤ maxLen) (h1 : s.toList.isEmpty = false) (h0 : ((s.size : Int) == 0) = false) (h2 : (s.toList == [120]) = false) (h3 : 0 < s.size) (h4 : 97 ≤ (s[0].toNat : Int)) (h5 : (s[0].toNat : Int) ≤ 122) :
    Calls Tryz.prog 60 #[.string s] w fun e w' => e = .returned (.int .i64 (nm s)) ∧ w = w' := by
  unfold maxLen at hs
  have HG : Hid ((∀ k (_ : k < s.size), okcn (((s.data[k]?).getD 0).toNat : Int)) → goodn s) := by
    intro h
    refine ⟨h3, by rw [← lst_nm]; simpa using h2, ?_, h⟩
    rw [at_nm s 0 h3]; exact ⟨h4, h5⟩
  go_enter Tryz.func60, Tryz.ntmps60
  go_wp2
  go_loop [23] (fun i => ∃ k : Nat, (k ≤ s.size ∧ ∀ j (_ : j < k), okcn (((s.data[j]?).getD 0).toNat : Int)) ∧ i = .int .i64 k) (fun i => s.size - (intOf i).toNat)
  case atStart => exact ⟨0, ⟨Nat.zero_le _, fun j hj => by omega⟩, rfl⟩
  case round =>
    obtain ⟨k, hkk, rfl⟩ := hrel
    have HK := Lib.hid hkk
    have hk : k ≤ s.size := hkk.1
    clear hkk
    by_cases hlt : k < s.size
    · have HA := Lib.hid (at_nm s k hlt)
      go_wp2
      all_goals first
        | (go_ret
           refine ⟨ret_int (nm_bad s ?_).symm, rfl⟩
           rintro ⟨_, _, _, hg⟩
           have := hg k hlt
           rw [HA.out] at this
           unfold okcn at this
           omega)
        | (go_round
           case rel =>
             refine ⟨k + 1, ⟨by omega, fun j hj => ?_⟩, by go_num⟩
             by_cases hjk : j < k
             · exact HK.out.2 j hjk
             · have : j = k := by omega
               subst this
               rw [HA.out]; unfold okcn; omega
           case measure => simp [intOf]; omega)
    · have hg : goodn s := HG.out fun j hj => HK.out.2 j (by omega)
      have HGG := Lib.hid hg
      clear hg
      by_cases hl : 16 < s.size
      · go_wp2
        go_ret
        exact ⟨ret_int (nm_long s HGG.out hl).symm, rfl⟩
      · go_wp2
        go_ret
        exact ⟨ret_int (nm_ok s HGG.out hl).symm, rfl⟩

set_option maxHeartbeats 400000 in
theorem ename_any (s : ByteArray) (w : World) (hs : s.size ≤ maxLen) :
    Calls Tryz.prog 60 #[.string s] w fun e w' => e = .returned (.int .i64 (nm s)) ∧ w = w' := by
  by_cases h3 : 0 < s.size
  · have h1 := ne_nm s h3
    have h0 : ((s.size : Int) == 0) = false := by rw [beq_eq_false_iff_ne]; omega
    by_cases hx : s.toList = [120]
    · have HB : Hid (nm s = 5) := nm_bad s fun h => h.2.1 (by rw [← lst_nm]; exact hx)
      have h2 : (s.toList == [120]) = true := by simp [hx]
      go_enter Tryz.func60, Tryz.ntmps60
      go_wp2
      go_ret
      exact ⟨ret_int HB.out.symm, rfl⟩
    · have h2 : (s.toList == [120]) = false := by simpa using hx
      by_cases h4 : 97 ≤ (s[0].toNat : Int)
      · by_cases h5 : (s[0].toNat : Int) ≤ 122
        · exact ename_main s w hs h1 h0 h2 h3 h4 h5
        · have HB : Hid (nm s = 5) := nm_bad s fun h => h5 (by have := h.2.2.1.2; rw [at_nm s 0 h3] at this; exact this)
          have h6 : 122 < (s[0].toNat : Int) := by omega
          clear hx h5
          go_enter Tryz.func60, Tryz.ntmps60
          go_wp2
          go_ret
          exact ⟨ret_int HB.out.symm, rfl⟩
      · have HB : Hid (nm s = 5) := nm_bad s fun h => h4 (by have := h.2.2.1.1; rw [at_nm s 0 h3] at this; exact this)
        have h6 : (s[0].toNat : Int) < 97 := by omega
        clear hx h4
        go_enter Tryz.func60, Tryz.ntmps60
        go_wp2
        go_ret
        exact ⟨ret_int HB.out.symm, rfl⟩
  · have he : s = ByteArray.empty := empty_nm s (by omega)
    subst he
    have HB : Hid (nm ByteArray.empty = 5) := by unfold Hid; decide
    clear h3 hs
    go_enter Tryz.func60, Tryz.ntmps60
    go_wp2
    go_ret
    exact ⟨ret_int HB.out.symm, rfl⟩

set_option maxHeartbeats 400000 in
theorem rname_main (s : ByteArray) (w : World) (hs : s.size ≤ maxLen) (h1 : s.toList.isEmpty = false) (h0 : ((s.size : Int) == 0) = false) (h2 : (s.toList == [120]) = false) (h3 : 0 < s.size) (h4 : 97 ≤ (s[0].toNat : Int)) (h5 : (s[0].toNat : Int) ≤ 122) :
    Calls Tryz.prog 63 #[.string s] w fun e w' => e = .returned (.int .i64 (nm s)) ∧ w = w' := by
  unfold maxLen at hs
  have HG : Hid ((∀ k (_ : k < s.size), okcn (((s.data[k]?).getD 0).toNat : Int)) → goodn s) := by
    intro h
    refine ⟨h3, by rw [← lst_nm]; simpa using h2, ?_, h⟩
    rw [at_nm s 0 h3]; exact ⟨h4, h5⟩
  go_enter Tryz.func63, Tryz.ntmps63
  go_wp2
  go_loop [3] (fun i => ∃ k : Nat, (k ≤ s.size ∧ ∀ j (_ : j < k), okcn (((s.data[j]?).getD 0).toNat : Int)) ∧ i = .int .i64 k) (fun i => s.size - (intOf i).toNat)
  case atStart => exact ⟨0, ⟨Nat.zero_le _, fun j hj => by omega⟩, rfl⟩
  case round =>
    obtain ⟨k, hkk, rfl⟩ := hrel
    have HK := Lib.hid hkk
    have hk : k ≤ s.size := hkk.1
    clear hkk
    by_cases hlt : k < s.size
    · have HA := Lib.hid (at_nm s k hlt)
      go_wp2
      all_goals first
        | (go_ret
           refine ⟨ret_int (nm_bad s ?_).symm, rfl⟩
           rintro ⟨_, _, _, hg⟩
           have := hg k hlt
           rw [HA.out] at this
           unfold okcn at this
           omega)
        | (go_round
           case rel =>
             refine ⟨k + 1, ⟨by omega, fun j hj => ?_⟩, by go_num⟩
             by_cases hjk : j < k
             · exact HK.out.2 j hjk
             · have : j = k := by omega
               subst this
               rw [HA.out]; unfold okcn; omega
           case measure => simp [intOf]; omega)
    · have hg : goodn s := HG.out fun j hj => HK.out.2 j (by omega)
      have HGG := Lib.hid hg
      clear hg
      by_cases hl : 16 < s.size
      · go_wp2
        go_ret
        exact ⟨ret_int (nm_long s HGG.out hl).symm, rfl⟩
      · go_wp2
        go_ret
        exact ⟨ret_int (nm_ok s HGG.out hl).symm, rfl⟩

set_option maxHeartbeats 400000 in
theorem rname_any (s : ByteArray) (w : World) (hs : s.size ≤ maxLen) :
    Calls Tryz.prog 63 #[.string s] w fun e w' => e = .returned (.int .i64 (nm s)) ∧ w = w' := by
  by_cases h3 : 0 < s.size
  · have h1 := ne_nm s h3
    have h0 : ((s.size : Int) == 0) = false := by rw [beq_eq_false_iff_ne]; omega
    by_cases hx : s.toList = [120]
    · have HB : Hid (nm s = 5) := nm_bad s fun h => h.2.1 (by rw [← lst_nm]; exact hx)
      have h2 : (s.toList == [120]) = true := by simp [hx]
      go_enter Tryz.func63, Tryz.ntmps63
      go_wp2
      go_ret
      exact ⟨ret_int HB.out.symm, rfl⟩
    · have h2 : (s.toList == [120]) = false := by simpa using hx
      by_cases h4 : 97 ≤ (s[0].toNat : Int)
      · by_cases h5 : (s[0].toNat : Int) ≤ 122
        · exact rname_main s w hs h1 h0 h2 h3 h4 h5
        · have HB : Hid (nm s = 5) := nm_bad s fun h => h5 (by have := h.2.2.1.2; rw [at_nm s 0 h3] at this; exact this)
          have h6 : 122 < (s[0].toNat : Int) := by omega
          clear hx h5
          go_enter Tryz.func63, Tryz.ntmps63
          go_wp2
          go_ret
          exact ⟨ret_int HB.out.symm, rfl⟩
      · have HB : Hid (nm s = 5) := nm_bad s fun h => h4 (by have := h.2.2.1.1; rw [at_nm s 0 h3] at this; exact this)
        have h6 : (s[0].toNat : Int) < 97 := by omega
        clear hx h4
        go_enter Tryz.func63, Tryz.ntmps63
        go_wp2
        go_ret
        exact ⟨ret_int HB.out.symm, rfl⟩
  · have he : s = ByteArray.empty := empty_nm s (by omega)
    subst he
    have HB : Hid (nm ByteArray.empty = 5) := by unfold Hid; decide
    clear h3 hs
    go_enter Tryz.func63, Tryz.ntmps63
    go_wp2
    go_ret
    exact ⟨ret_int HB.out.symm, rfl⟩

end Go.Proofs.YtamfhmmcnlollaaGreat
namespace Go.Proofs.YtamfhmmcnlollaaGreat
open Go.RowKit
set_option linter.unusedVariables false

@[go_sem] theorem binOp_string_geqE (t : TypeId) (a b : ByteArray) : binOp .geq t (.string a) (.string b) = pure (.bool !(Op.bytesLess a.toList b.toList)) := by simp [binOp, Op.stringOp]
/-- the order of two names -/
def bcmp (a b : ByteArray) : Int := Lib.compareBytes a.data.toList b.data.toList
theorem cmpB_lt : ∀ (a b : List UInt8), decide (Lib.compareBytes a b < 0) = Op.bytesLess a b
  | [], [] => rfl
  | [], _ :: _ => rfl
  | _ :: _, [] => rfl
  | x :: a, y :: b => by
    unfold Lib.compareBytes Op.bytesLess
    by_cases h : x < y
    · rw [if_pos h, decide_eq_true h]; rfl
    · rw [if_neg h, decide_eq_false h]
      by_cases h2 : y < x
      · rw [if_pos h2]
        have : (x == y) = false := by
          rw [beq_eq_false_iff_ne]; intro e; subst e; exact UInt8.lt_irrefl _ h2
        rw [this]; rfl
      · rw [if_neg h2]
        have : x = y := by
          have h3 := UInt8.not_lt.1 h
          have h4 := UInt8.not_lt.1 h2
          exact UInt8.le_antisymm h4 h3
        subst this
        rw [cmpB_lt a b]
        simp
theorem cmpB_eq : ∀ (a b : List UInt8), Lib.compareBytes a b = 0 ↔ a = b
  | [], [] => by simp [Lib.compareBytes]
  | [], _ :: _ => by simp [Lib.compareBytes]
  | _ :: _, [] => by simp [Lib.compareBytes]
  | x :: a, y :: b => by
    unfold Lib.compareBytes
    by_cases h : x < y
    · rw [if_pos h]
      constructor
      · intro e; cases e
      · intro e; injection e with e _; subst e; exact absurd h (UInt8.lt_irrefl _)
    · rw [if_neg h]
      by_cases h2 : y < x
      · rw [if_pos h2]
        constructor
        · intro e; cases e
        · intro e; injection e with e _; subst e; exact absurd h2 (UInt8.lt_irrefl _)
      · rw [if_neg h2, cmpB_eq a b]
        have : x = y := UInt8.le_antisymm (UInt8.not_lt.1 h2) (UInt8.not_lt.1 h)
        subst this
        simp
theorem ba_list (a : ByteArray) : a.toList = a.data.toList := ByteArray.toList_eq _
theorem bcmp_lt (a b : ByteArray) : Op.bytesLess a.toList b.toList = decide (bcmp a b < 0) := by rw [ba_list, ba_list]; exact (cmpB_lt _ _).symm
theorem bcmp_eq {a b : ByteArray} : bcmp a b = 0 ↔ a = b := by
  unfold bcmp
  rw [cmpB_eq]
  constructor
  · intro h
    obtain ⟨⟨la⟩⟩ := a
    obtain ⟨⟨lb⟩⟩ := b
    simp at h
    subst h; rfl
  · intro h; subst h; rfl
set_option maxHeartbeats 1000000 in
set_option maxRecDepth 100000 in
theorem cmpString_any (a b : ByteArray) (w : World) : Calls Tryz.prog 176 #[.string a, .string b] w fun e w' => e = .returned (.int .i64 (bcmp a b)) ∧ w' = w := by
  go_enter Tryz.func176, Tryz.ntmps176
  go_wp2
  rw [run_callFunc_extern Tryz.func191 (by kernel_rfl) (by kernel_rfl) (by kernel_rfl) (e := Extern.BytealgCompare.compare) (by kernel_rfl), Lib.run_compareString]
  simp only [Result.andThen]
  rw [Oper.upon_value]
  go_wp2
  go_ret
  exact ⟨rfl, rfl⟩
theorem sCompare_any (a b : ByteArray) (w : World) : Calls Tryz.prog 153 #[.string a, .string b] w fun e w' => e = .returned (.int .i64 (bcmp a b)) ∧ w' = w := by
  go_enter Tryz.func153, Tryz.ntmps153
  go_wp2_with fail
  refine (cmpString_any a b _).mono ?_
  rintro e w' ⟨rfl, rfl⟩
  go_wp2
  go_ret
  exact ⟨rfl, rfl⟩
theorem byName_any (a b : ByteArray) (u v : Value) (w : World) : Calls Tryz.prog 123 #[.agg #[.string a, u], .agg #[.string b, v]] w (Keeps (.int .i64 (bcmp a b)) w) := by
  have HB : Hid (Below w.heap.size w (World.alloc (World.alloc w (.cells #[.string a, u] 57)) (.cells #[.string b, v] 57))) := ((Below.refl _ _).alloc (Nat.le_refl _) _).alloc (by simp) _
  go_enter Tryz.func123, Tryz.ntmps123
  go_wp2_with fail
  refine (sCompare_any a b _).mono ?_
  rintro e w' ⟨rfl, rfl⟩
  go_wp2
  go_ret
  exact ⟨rfl, HB.out⟩
/-- a binding as it came in -/
abbrev Bn := ByteArray × List Cf
abbrev Hb := ByteArray × Sh
def hbv (h : Hb) : List Value := [.string h.1, shv h.2]
theorem hbv_len (h : Hb) : (hbv h).length = 2 := rfl
def rightc (b : Bn) : Int := if nm b.1 = 0 then fitc b.2 else nm b.1
set_option maxHeartbeats 1000000 in
theorem right_any {s : ByteArray} {A : Option Addr} {n c L : Nat} {rs : List Cf} {w : World} (h : PolyI L w (.slice A n c) rs) (hs : s.size ≤ maxLen) (hL1 : 1 ≤ L) (hL : L ≤ 268435456) (hn : n ≤ 1073741824) :
    Calls Tryz.prog 61 #[.agg #[.string s, .slice A n c]] w (Keeps (.int .i64 (rightc (s, rs))) w) := by
  have H := Lib.hid h
  have HN := Lib.hid (ename_any s (World.alloc w (.cells #[.string s, .slice A n c] 57)) hs)
  clear h hs
  go_enter Tryz.func61, Tryz.ntmps61
  go_wp2_with fail
  refine HN.out.mono ?_
  rintro e w1 ⟨rfl, rfl⟩
  by_cases h0 : nm s = 0
  · have HF : Hid (rightc (s, rs) = fitc rs) := by unfold rightc; rw [if_pos h0]; rfl
    rw [h0]
    go_wp2_with fail
    refine (efits_any (H.out.below ((Below.refl _ _).alloc (Nat.le_refl _) (.cells #[.string s, .slice A n c] 57))) hL1 hL hn).mono ?_
    rintro e w1 ⟨rfl, hb1⟩
    have HEND := Lib.hid (bt ((Below.refl _ _).alloc (Nat.le_refl _) (.cells #[.string s, .slice A n c] 57)) hb1)
    go_wp2
    go_ret
    exact ⟨by rw [HF.out]; rfl, HEND.out⟩
  · have HF : Hid (rightc (s, rs) = nm s) := by unfold rightc; rw [if_neg h0]; rfl
    have d1 : (nm s == 0) = false := by rw [beq_eq_false_iff_ne]; exact h0
    have d2 : (nm s != 0) = true := by simp [bne, d1]
    generalize nm s = z at *
    go_wp2
    go_ret
    exact ⟨by rw [HF.out]; rfl, (Below.refl _ _).alloc (Nat.le_refl _) _⟩
end Go.Proofs.YtamfhmmcnlollaaGreat
namespace Go.Proofs.YtamfhmmcnlollaaGreat
open Go.RowKit
set_option linter.unusedVariables false
set_option linter.unusedSimpArgs false

def RawB (L : Nat) (w : World) (h : Hb) (r : Bn) : Prop := h.1 = r.1 ∧ PolyI L w (shv h.2) r.2 ∧ r.1.size ≤ maxLen ∧ h.2.2.1 ≤ 1073741824
/-- a list of bindings as it came in -/
def ListI (L : Nat) (w : World) (v : Value) (bs : List Bn) : Prop := ∃ A n c hs, v = .slice A n c ∧ RdK 2 w A n c (hs.flatMap hbv) ∧ n = bs.length ∧ All2 (RawB L w) hs bs
section
variable {L : Nat} {w w' : World} {v : Value} {bs : List Bn} {h : Hb} {r : Bn}
theorem RawB.below (H : RawB L w h r) (hb : Below w.heap.size w w') : RawB L w' h r := ⟨H.1, H.2.1.below hb, H.2.2⟩
theorem ListI.below (H : ListI L w v bs) (hb : Below w.heap.size w w') : ListI L w' v bs := by
  obtain ⟨A, n, c, hs, rfl, h1, h2, h3⟩ := H
  exact ⟨A, n, c, hs, rfl, h1.below hb, h2, h3.imp fun _ _ e => e.below hb⟩
theorem ListI.len {A : Option Addr} {n c : Nat} (H : ListI L w (.slice A n c) bs) : n = bs.length ∧ n ≤ c := by
  obtain ⟨_, _, _, hs, e, h1, h2, _⟩ := H
  injection e with e1 e2 e3
  subst e1 e2 e3
  exact ⟨h2, h1.1.2⟩
theorem ListI.at {i : Nat} {A : Option Addr} {n c : Nat} (H : ListI L w (.slice A n c) bs) (hi : i < bs.length) : ∃ b off A1 n1 c1 r, A = some ⟨b, off, none⟩ ∧ b < w.heap.size ∧ bs[i]? = some r ∧
    At w ⟨b, off + i * 2, none⟩ (.string r.1) ∧ At w ⟨b, off + i * 2 + 1, none⟩ (.slice A1 n1 c1) ∧ PolyI L w (.slice A1 n1 c1) r.2 ∧ r.1.size ≤ maxLen ∧ n1 ≤ 1073741824 := by
  obtain ⟨A', n', c', hs, e, h1, h2, h3⟩ := H
  injection e with e1 e2 e3
  subst e1 e2 e3
  obtain ⟨b, off, e, hb, hc⟩ := h1.2 (by omega)
  obtain ⟨hd, r, e1, e2, h4, h5, h6, h7⟩ := h3.at hi
  have hf := fun j hj => flat2 hbv hbv_len hs i j hd e1 hj
  refine ⟨b, off, hd.2.1, hd.2.2.1, hd.2.2.2, r, e, hb, e2, ⟨?_, hb⟩, ⟨?_, hb⟩, h5, h6, h7⟩
  · have := hf 0 (by omega); rw [Nat.add_zero] at this; rw [hc _ (by omega), this, ← h4]; rfl
  · rw [Nat.add_assoc, hc _ (by omega), hf 1 (by omega)]; rfl
end
def bnat (bs : List Bn) (i : Nat) : Bn := (bs[i]?).getD (ByteArray.empty, [])
theorem bnat_of {bs : List Bn} {i : Nat} {r : Bn} (h : bs[i]? = some r) : bnat bs i = r := by unfold bnat; rw [h]; rfl
def okAt (bs : List Bn) : Nat → Bool
  | 0 => decide (rightc (bnat bs 0) = 0)
  | i + 1 => decide (rightc (bnat bs (i + 1)) = 0) && decide (bcmp (bnat bs i).1 (bnat bs (i + 1)).1 < 0)
theorem okAt_zero (bs : List Bn) : okAt bs 0 = decide (rightc (bnat bs 0) = 0) := rfl
theorem okAt_succ (bs : List Bn) (i : Nat) : okAt bs (i + 1) = (decide (rightc (bnat bs (i + 1)) = 0) && decide (bcmp (bnat bs i).1 (bnat bs (i + 1)).1 < 0)) := rfl
/-- is the list in form? -/
def goodl (bs : List Bn) : Bool := (List.range bs.length).all (okAt bs) && decide (bs.length ≤ 64)
theorem goodl_bad {bs : List Bn} {i : Nat} (hi : i < bs.length) (h : okAt bs i = false) : goodl bs = false := by
  unfold goodl
  rw [Bool.and_eq_false_iff]
  left
  rw [List.all_eq_false]
  exact ⟨i, List.mem_range.2 hi, by rw [h]; simp⟩
theorem goodl_all {bs : List Bn} (h : ∀ i, i < bs.length → okAt bs i = true) : goodl bs = decide (bs.length ≤ 64) := by
  unfold goodl
  have : (List.range bs.length).all (okAt bs) = true := List.all_eq_true.2 fun i hi => h i (List.mem_range.1 hi)
  rw [this]; rfl
set_option maxHeartbeats 8000000 in
set_option maxRecDepth 100000 in
theorem egood_any {A : Option Addr} {n c L : Nat} {bs : List Bn} {w : World} (h : ListI L w (.slice A n c) bs) (hL1 : 1 ≤ L) (hL : L ≤ 268435456) (hn : n ≤ 1073741824) :
    Calls Tryz.prog 68 #[.slice A n c] w (Keeps (.bool (goodl bs)) w) := by
  have H := Lib.hid h
  have HNQ : Hid (n = bs.length) := h.len.1
  clear h
  go_enter Tryz.func68, Tryz.ntmps68
  go_wp2
  go_loopw [7] (fun kv wr => ∃ (i : Nat), Hid (Below w.heap.size w wr ∧ ∀ j, j < i → okAt bs j = true) ∧ i ≤ n ∧ kv = .int .i64 (i : Int)) (fun kv _ => n - (intOf kv).toNat)
  case atStart => exact ⟨0, ⟨Below.refl _ _, fun j hj => absurd hj (Nat.not_lt_zero j)⟩, Nat.zero_le _, rfl⟩
  case round =>
    obtain ⟨i, hI, hi, rfl⟩ := hrel
    by_cases hlt : i < n
    · obtain ⟨b, off, A1, n1, c1, r, e, hb, eq, h0, h1, h3, h4, h5⟩ := (H.out.below hI.out.1).at (i := i) (by have := HNQ.out; omega)
      have HQ := Lib.hid eq
      have HP := Lib.hid h3
      have HS := Lib.hid h4
      clear eq h3 h4
      subst e
      have i1 : (0 : Int) ≤ (i : Int) := by omega
      have i2 : (i : Int) < (n : Int) := by omega
      have x0 := h0.1
      have x1 := h1.1
      by_cases hz : rightc r = 0
      · cases i with
        | zero =>
          simp only [Nat.zero_mul, Nat.add_zero] at x0 x1
          have HN : ∀ j, j < 0 + 1 → okAt bs j = true := fun j hj => by
            obtain rfl : j = 0 := by omega
            rw [okAt_zero, bnat_of HQ.out, decide_eq_true hz]
          have HN := Lib.hid HN
          have C := Lib.hid (right_any (s := r.1) (w := World.drew (World.alloc wr (.cells #[.string r.1, .slice A1 n1 c1] 57))) (HP.out.below (belowA _ _).drew) HS.out hL1 hL (by omega))
          rw [show rightc (r.1, r.2) = 0 from hz] at C
          go_wp2_with fail
          have e_f0 := (At.boxc (i := 0) (v := .string r.1) (t := 57) (b := wr.heap.size) wr #[.string r.1, .slice A1 n1 c1] rfl (by simp)).1
          have g_f0 := At.grow (At.boxc (i := 0) (v := .string r.1) (t := 57) (b := wr.heap.size) wr #[.string r.1, .slice A1 n1 c1] rfl (by simp))
          have e_f1 := (At.boxc (i := 1) (v := .slice A1 n1 c1) (t := 57) (b := wr.heap.size) wr #[.string r.1, .slice A1 n1 c1] rfl (by simp)).1
          have g_f1 := At.grow (At.boxc (i := 1) (v := .slice A1 n1 c1) (t := 57) (b := wr.heap.size) wr #[.string r.1, .slice A1 n1 c1] rfl (by simp))
          refine wp_region_grow none [(true, 0), (false, 1), (true, 2), (true, 3), (true, 4), (true, 5), (true, 6), (true, 7), (true, 8), (true, 9), (true, 10), (true, 11), (true, 12), (true, 13), (true, 14), (true, 15), (true, 16)] (by kernel_rfl) (by kernel_rfl) ?_
          repeat (refine ord_pas (by rfl) (fun K hK => ?_); go_simp; refine hK _ _ (fun w' hw' => (by first | (go_simp; done) | (go_simp; intro hh; cases hh))) ?_; clear hK K)
          (refine ord_call (by rfl) (fun K hK => ?_); go_simp; refine hK _ _ ?_; clear hK K)
          refine (C.out).mono ?_
          rintro e w1 ⟨rfl, hb1⟩
          refine ⟨_, rfl, Grow.of_below hb1, ?_⟩
          (refine ord_norm (fun K hK => ?_); go_simp; refine hK _ ?_; clear hK K)
          repeat (refine ord_pas (by rfl) (fun K hK => ?_); go_simp; refine hK _ _ (fun w' hw' => (by first | (go_simp; done) | (go_simp; intro hh; cases hh))) ?_; clear hK K)
          refine ord_nil ?_
          have HB := Lib.hid (bt hI.out.1 (bt (bt ((Below.refl _ _).alloc (Nat.le_refl _) (.cells #[.string r.1, .slice A1 n1 c1] 57)) (Below.refl _ _).drew) hb1))
          go_wp2
          go_roundw
          case rel => exact ⟨0 + 1, ⟨HB.out, HN.out⟩, by omega, by go_num⟩
          case measure => simp [intOf]; omega
        | succ k =>
          obtain ⟨b', off', A3, n3, c3, r3, e3, hb3, eq3, g0, g1, _, _, _⟩ := (H.out.below hI.out.1).at (i := k) (by have := HNQ.out; omega)
          injection e3 with e3
          injection e3 with e3 e4 _
          subst e3 e4
          have HQ3 := Lib.hid eq3
          clear eq3
          have i3 : (0 : Int) < (k : Int) + 1 := by omega
          have i4 : (k : Int) < (n : Int) := by omega
          have i5 : (0 : Int) ≤ (k : Int) := by omega
          have i6 : IntKind.i64.wrap (k : Int) = (k : Int) := by rw [IntKind.wrap_i64]; omega
          have C := Lib.hid (right_any (s := r.1) (w := World.drew (World.alloc wr (.cells #[.string r.1, .slice A1 n1 c1] 57))) (HP.out.below (belowA _ _).drew) HS.out hL1 hL (by omega))
          rw [show rightc (r.1, r.2) = 0 from hz] at C
          by_cases hc : bcmp r3.1 r.1 < 0
          · have HN : ∀ j, j < k + 1 + 1 → okAt bs j = true := fun j hj => by
              rcases Nat.lt_or_ge j (k + 1) with hj2 | hj2
              · exact hI.out.2 j hj2
              · obtain rfl : j = k + 1 := by omega
                rw [okAt_succ, bnat_of HQ.out, bnat_of HQ3.out, decide_eq_true hz, decide_eq_true hc]; rfl
            have HN := Lib.hid HN
            have d3 : decide (0 ≤ bcmp r3.1 r.1) = false := by simp; omega
            go_wp2_with fail
            have e_f0 := (At.boxc (i := 0) (v := .string r.1) (t := 57) (b := wr.heap.size) wr #[.string r.1, .slice A1 n1 c1] rfl (by simp)).1
            have g_f0 := At.grow (At.boxc (i := 0) (v := .string r.1) (t := 57) (b := wr.heap.size) wr #[.string r.1, .slice A1 n1 c1] rfl (by simp))
            have e_f1 := (At.boxc (i := 1) (v := .slice A1 n1 c1) (t := 57) (b := wr.heap.size) wr #[.string r.1, .slice A1 n1 c1] rfl (by simp)).1
            have g_f1 := At.grow (At.boxc (i := 1) (v := .slice A1 n1 c1) (t := 57) (b := wr.heap.size) wr #[.string r.1, .slice A1 n1 c1] rfl (by simp))
            have e_g0 := (g0.below (belowA wr (.cells #[.string r.1, .slice A1 n1 c1] 57))).1
            have g_g0 := At.grow (g0.below (belowA wr (.cells #[.string r.1, .slice A1 n1 c1] 57)))
            have e_g1 := (g1.below (belowA wr (.cells #[.string r.1, .slice A1 n1 c1] 57))).1
            have g_g1 := At.grow (g1.below (belowA wr (.cells #[.string r.1, .slice A1 n1 c1] 57)))
            refine wp_region_grow none [(true, 0), (false, 1), (true, 2), (true, 3), (true, 4), (true, 5), (true, 6), (true, 7), (true, 8), (true, 9), (true, 10), (true, 11), (true, 12), (false, 13), (true, 14), (true, 15), (true, 16)] (by kernel_rfl) (by kernel_rfl) ?_
            repeat (refine ord_pas (by rfl) (fun K hK => ?_); go_simp; refine hK _ _ (fun w' hw' => (by first | (go_simp; done) | (go_simp; intro hh; cases hh))) ?_; clear hK K)
            (refine ord_call (by rfl) (fun K hK => ?_); go_simp; refine hK _ _ ?_; clear hK K)
            refine (C.out).mono ?_
            rintro e w2 ⟨rfl, hb2⟩
            refine ⟨_, rfl, Grow.of_below hb2, ?_⟩
            (refine ord_norm (fun K hK => ?_); go_simp; refine hK _ ?_; clear hK K)
            have em_f0 := (((At.boxc (i := 0) (v := .string r.1) (t := 57) (b := wr.heap.size) wr #[.string r.1, .slice A1 n1 c1] rfl (by simp)).below (Below.refl _ _).drew).below hb2).1
            have gm_f0 := At.grow0 (((At.boxc (i := 0) (v := .string r.1) (t := 57) (b := wr.heap.size) wr #[.string r.1, .slice A1 n1 c1] rfl (by simp)).below (Below.refl _ _).drew).below hb2)
            have em_f1 := (((At.boxc (i := 1) (v := .slice A1 n1 c1) (t := 57) (b := wr.heap.size) wr #[.string r.1, .slice A1 n1 c1] rfl (by simp)).below (Below.refl _ _).drew).below hb2).1
            have gm_f1 := At.grow0 (((At.boxc (i := 1) (v := .slice A1 n1 c1) (t := 57) (b := wr.heap.size) wr #[.string r.1, .slice A1 n1 c1] rfl (by simp)).below (Below.refl _ _).drew).below hb2)
            have em_g0 := (((g0.below (belowA wr (.cells #[.string r.1, .slice A1 n1 c1] 57))).below (Below.refl _ _).drew).below hb2).1
            have gm_g0 := At.grow0 (((g0.below (belowA wr (.cells #[.string r.1, .slice A1 n1 c1] 57))).below (Below.refl _ _).drew).below hb2)
            have em_g1 := (((g1.below (belowA wr (.cells #[.string r.1, .slice A1 n1 c1] 57))).below (Below.refl _ _).drew).below hb2).1
            have gm_g1 := At.grow0 (((g1.below (belowA wr (.cells #[.string r.1, .slice A1 n1 c1] 57))).below (Below.refl _ _).drew).below hb2)
            repeat (refine ord_pas (by rfl) (fun K hK => ?_); go_simp; refine hK _ _ (fun w' hw' => (by first | (go_simp; done) | (go_simp; intro hh; cases hh))) ?_; clear hK K)
            clear gm_f0 em_f0 gm_f1 em_f1 gm_g0 em_g0 gm_g1 em_g1
            (refine ord_call (by rfl) (fun K hK => ?_); go_simp; refine hK _ _ ?_; clear hK K)
            refine (byName_any r3.1 r.1 (.slice A3 n3 c3) (.slice A1 n1 c1) _).mono ?_
            rintro e w3 ⟨rfl, hb3⟩
            refine ⟨_, rfl, Grow.of_below hb3, ?_⟩
            (refine ord_norm (fun K hK => ?_); go_simp; refine hK _ ?_; clear hK K)
            repeat (refine ord_pas (by rfl) (fun K hK => ?_); go_simp; refine hK _ _ (fun w' hw' => (by first | (go_simp; done) | (go_simp; intro hh; cases hh))) ?_; clear hK K)
            refine ord_nil ?_
            have HB := Lib.hid (bt hI.out.1 (bt (bt (bt ((Below.refl _ _).alloc (Nat.le_refl _) (.cells #[.string r.1, .slice A1 n1 c1] 57)) (Below.refl _ _).drew) hb2) hb3))
            go_wp2
            go_roundw
            case rel => exact ⟨k + 1 + 1, ⟨HB.out, HN.out⟩, by omega, by go_num⟩
            case measure => simp [intOf]; omega
          · have HF : Hid (goodl bs = false) := goodl_bad (i := k + 1) (by have := HNQ.out; omega) (by rw [okAt_succ, bnat_of HQ.out, bnat_of HQ3.out, decide_eq_false hc, Bool.and_false])
            have d3 : decide (0 ≤ bcmp r3.1 r.1) = true := by simp; omega
            go_wp2_with fail
            have e_f0 := (At.boxc (i := 0) (v := .string r.1) (t := 57) (b := wr.heap.size) wr #[.string r.1, .slice A1 n1 c1] rfl (by simp)).1
            have g_f0 := At.grow (At.boxc (i := 0) (v := .string r.1) (t := 57) (b := wr.heap.size) wr #[.string r.1, .slice A1 n1 c1] rfl (by simp))
            have e_f1 := (At.boxc (i := 1) (v := .slice A1 n1 c1) (t := 57) (b := wr.heap.size) wr #[.string r.1, .slice A1 n1 c1] rfl (by simp)).1
            have g_f1 := At.grow (At.boxc (i := 1) (v := .slice A1 n1 c1) (t := 57) (b := wr.heap.size) wr #[.string r.1, .slice A1 n1 c1] rfl (by simp))
            have e_g0 := (g0.below (belowA wr (.cells #[.string r.1, .slice A1 n1 c1] 57))).1
            have g_g0 := At.grow (g0.below (belowA wr (.cells #[.string r.1, .slice A1 n1 c1] 57)))
            have e_g1 := (g1.below (belowA wr (.cells #[.string r.1, .slice A1 n1 c1] 57))).1
            have g_g1 := At.grow (g1.below (belowA wr (.cells #[.string r.1, .slice A1 n1 c1] 57)))
            refine wp_region_grow none [(true, 0), (false, 1), (true, 2), (true, 3), (true, 4), (true, 5), (true, 6), (true, 7), (true, 8), (true, 9), (true, 10), (true, 11), (true, 12), (false, 13), (true, 14), (true, 15), (true, 16)] (by kernel_rfl) (by kernel_rfl) ?_
            repeat (refine ord_pas (by rfl) (fun K hK => ?_); go_simp; refine hK _ _ (fun w' hw' => (by first | (go_simp; done) | (go_simp; intro hh; cases hh))) ?_; clear hK K)
            (refine ord_call (by rfl) (fun K hK => ?_); go_simp; refine hK _ _ ?_; clear hK K)
            refine (C.out).mono ?_
            rintro e w4 ⟨rfl, hb4⟩
            refine ⟨_, rfl, Grow.of_below hb4, ?_⟩
            (refine ord_norm (fun K hK => ?_); go_simp; refine hK _ ?_; clear hK K)
            have em_f0 := (((At.boxc (i := 0) (v := .string r.1) (t := 57) (b := wr.heap.size) wr #[.string r.1, .slice A1 n1 c1] rfl (by simp)).below (Below.refl _ _).drew).below hb4).1
            have gm_f0 := At.grow0 (((At.boxc (i := 0) (v := .string r.1) (t := 57) (b := wr.heap.size) wr #[.string r.1, .slice A1 n1 c1] rfl (by simp)).below (Below.refl _ _).drew).below hb4)
            have em_f1 := (((At.boxc (i := 1) (v := .slice A1 n1 c1) (t := 57) (b := wr.heap.size) wr #[.string r.1, .slice A1 n1 c1] rfl (by simp)).below (Below.refl _ _).drew).below hb4).1
            have gm_f1 := At.grow0 (((At.boxc (i := 1) (v := .slice A1 n1 c1) (t := 57) (b := wr.heap.size) wr #[.string r.1, .slice A1 n1 c1] rfl (by simp)).below (Below.refl _ _).drew).below hb4)
            have em_g0 := (((g0.below (belowA wr (.cells #[.string r.1, .slice A1 n1 c1] 57))).below (Below.refl _ _).drew).below hb4).1
            have gm_g0 := At.grow0 (((g0.below (belowA wr (.cells #[.string r.1, .slice A1 n1 c1] 57))).below (Below.refl _ _).drew).below hb4)
            have em_g1 := (((g1.below (belowA wr (.cells #[.string r.1, .slice A1 n1 c1] 57))).below (Below.refl _ _).drew).below hb4).1
            have gm_g1 := At.grow0 (((g1.below (belowA wr (.cells #[.string r.1, .slice A1 n1 c1] 57))).below (Below.refl _ _).drew).below hb4)
            repeat (refine ord_pas (by rfl) (fun K hK => ?_); go_simp; refine hK _ _ (fun w' hw' => (by first | (go_simp; done) | (go_simp; intro hh; cases hh))) ?_; clear hK K)
            clear gm_f0 em_f0 gm_f1 em_f1 gm_g0 em_g0 gm_g1 em_g1
            (refine ord_call (by rfl) (fun K hK => ?_); go_simp; refine hK _ _ ?_; clear hK K)
            refine (byName_any r3.1 r.1 (.slice A3 n3 c3) (.slice A1 n1 c1) _).mono ?_
            rintro e w5 ⟨rfl, hb5⟩
            refine ⟨_, rfl, Grow.of_below hb5, ?_⟩
            (refine ord_norm (fun K hK => ?_); go_simp; refine hK _ ?_; clear hK K)
            repeat (refine ord_pas (by rfl) (fun K hK => ?_); go_simp; refine hK _ _ (fun w' hw' => (by first | (go_simp; done) | (go_simp; intro hh; cases hh))) ?_; clear hK K)
            refine ord_nil ?_
            have HB := Lib.hid (bt hI.out.1 (bt (bt (bt ((Below.refl _ _).alloc (Nat.le_refl _) (.cells #[.string r.1, .slice A1 n1 c1] 57)) (Below.refl _ _).drew) hb4) hb5))
            go_wp2
            go_ret
            exact ⟨by rw [HF.out]; rfl, HB.out⟩
      · have HF : Hid (goodl bs = false) := goodl_bad (i := i) (by have := HNQ.out; omega) (by
          cases i with
          | zero => rw [okAt_zero, bnat_of HQ.out, decide_eq_false hz]
          | succ k => rw [okAt_succ, bnat_of HQ.out, decide_eq_false hz]; rfl)
        have d1 : (rightc r == 0) = false := by rw [beq_eq_false_iff_ne]; exact hz
        have d2 : (rightc r != 0) = true := by simp [bne, d1]
        go_wp2_with fail
        have e_f0 := (At.boxc (i := 0) (v := .string r.1) (t := 57) (b := wr.heap.size) wr #[.string r.1, .slice A1 n1 c1] rfl (by simp)).1
        have g_f0 := At.grow (At.boxc (i := 0) (v := .string r.1) (t := 57) (b := wr.heap.size) wr #[.string r.1, .slice A1 n1 c1] rfl (by simp))
        have e_f1 := (At.boxc (i := 1) (v := .slice A1 n1 c1) (t := 57) (b := wr.heap.size) wr #[.string r.1, .slice A1 n1 c1] rfl (by simp)).1
        have g_f1 := At.grow (At.boxc (i := 1) (v := .slice A1 n1 c1) (t := 57) (b := wr.heap.size) wr #[.string r.1, .slice A1 n1 c1] rfl (by simp))
        refine wp_region_grow none [(true, 0), (false, 1), (true, 2), (true, 3), (true, 4), (true, 5), (true, 6), (true, 7), (true, 8), (true, 9), (true, 10), (true, 11), (true, 12), (true, 13), (true, 14), (true, 15), (true, 16)] (by kernel_rfl) (by kernel_rfl) ?_
        repeat (refine ord_pas (by rfl) (fun K hK => ?_); go_simp; refine hK _ _ (fun w' hw' => (by first | (go_simp; done) | (go_simp; intro hh; cases hh))) ?_; clear hK K)
        (refine ord_call (by rfl) (fun K hK => ?_); go_simp; refine hK _ _ ?_; clear hK K)
        refine (right_any (s := r.1) ((HP.out.below ((Below.refl _ _).alloc (Nat.le_refl _) (.cells #[.string r.1, .slice A1 n1 c1] 57))).below (Below.refl _ _).drew) HS.out hL1 hL (by omega)).mono ?_
        rintro e w6 ⟨rfl, hb6⟩
        refine ⟨_, rfl, Grow.of_below hb6, ?_⟩
        (refine ord_norm (fun K hK => ?_); go_simp; refine hK _ ?_; clear hK K)
        repeat (refine ord_pas (by rfl) (fun K hK => ?_); go_simp; refine hK _ _ (fun w' hw' => (by first | (go_simp; done) | (go_simp; intro hh; cases hh))) ?_; clear hK K)
        refine ord_nil ?_
        have HB := Lib.hid (bt hI.out.1 (bt (bt ((Below.refl _ _).alloc (Nat.le_refl _) (.cells #[.string r.1, .slice A1 n1 c1] 57)) (Below.refl _ _).drew) hb6))
        go_wp2
        go_ret
        exact ⟨by rw [HF.out]; rfl, HB.out⟩
    · obtain rfl : i = n := by omega
      have HT : Hid (goodl bs = decide (i ≤ 64)) := by
        show _ = _
        rw [goodl_all (fun j hj => hI.out.2 j (by have := HNQ.out; omega)), ← HNQ.out]
      have HE : (decide ((i : Int) ≤ 64)) = decide (i ≤ 64) := by
        by_cases h : i ≤ 64
        · rw [decide_eq_true (by omega), decide_eq_true h]
        · rw [decide_eq_false (by omega), decide_eq_false h]
      have HB := Lib.hid hI.out.1
      generalize decide (i ≤ 64) = z at HT HE
      go_wp2
      go_ret
      exact ⟨by rw [HT.out]; simp [HE], HB.out⟩
end Go.Proofs.YtamfhmmcnlollaaGreat
namespace Go.Proofs.YtamfhmmcnlollaaGreat
open Go.RowKit
set_option linter.unusedVariables false

/-- a list of bindings: the names -/
def NamL (w : World) (A : Option Addr) (n c : Nat) (ns : List ByteArray) : Prop := ∃ hs : List Hb, RdK 2 w A n c (hs.flatMap hbv) ∧ hs.map (·.1) = ns
theorem NamL.below {w w' : World} {A : Option Addr} {n c : Nat} {ns : List ByteArray} (h : NamL w A n c ns) (hb : Below w.heap.size w w') : NamL w' A n c ns := by
  obtain ⟨hs, h1, h2⟩ := h
  exact ⟨hs, h1.below hb, h2⟩
theorem NamL.len {w : World} {A : Option Addr} {n c : Nat} {ns : List ByteArray} (h : NamL w A n c ns) : ns.length = n := by
  obtain ⟨hs, h1, h2⟩ := h
  have := h1.1.1
  rw [flat2_len hbv hbv_len] at this
  rw [← h2, List.length_map]
  omega
def nat_ (ns : List ByteArray) (i : Nat) : ByteArray := (ns[i]?).getD ByteArray.empty
theorem NamL.at {w : World} {A : Option Addr} {n c i : Nat} {ns : List ByteArray} (h : NamL w A n c ns) (hi : i < n) : ∃ b off u, A = some ⟨b, off, none⟩ ∧ At w ⟨b, off + i * 2, none⟩ (.string (nat_ ns i)) ∧ At w ⟨b, off + i * 2 + 1, none⟩ u := by
  have hl := h.len
  obtain ⟨hs, h1, h2⟩ := h
  obtain ⟨b, off, e, hb, hc⟩ := h1.2 (by omega)
  have hlh : hs.length = n := by rw [← hl, ← h2, List.length_map]
  have hh : hs[i]? = some (hs[i]'(by omega)) := List.getElem?_eq_getElem (by omega)
  have hf := fun j hj => flat2 hbv hbv_len hs i j _ hh hj
  have hn : nat_ ns i = (hs[i]'(by omega)).1 := by
    have h5 : ns[i]? = some (hs[i]'(by omega)).1 := by
      subst h2
      rw [List.getElem?_map, hh]; rfl
    unfold nat_
    rw [h5]; rfl
  refine ⟨b, off, shv (hs[i]'(by omega)).2, e, ⟨?_, hb⟩, ⟨?_, hb⟩⟩
  · have := hf 0 (by omega); rw [Nat.add_zero] at this; rw [hc _ (by omega), this, hn]; rfl
  · rw [Nat.add_assoc, hc _ (by omega), hf 1 (by omega)]; rfl
theorem ListI.nam {L : Nat} {w : World} {A : Option Addr} {n c : Nat} {bs : List Bn} (H : ListI L w (.slice A n c) bs) : NamL w A n c (bs.map (·.1)) := by
  obtain ⟨_, _, _, hs, e, h1, h2, h3⟩ := H
  injection e with e1 e2 e3
  subst e1 e2 e3
  refine ⟨hs, h1, List.ext_getElem (by simp [h3.1]) fun i h4 h5 => ?_⟩
  have h6 : i < hs.length := by simpa using h4
  have h7 : i < bs.length := by rw [← h3.1]; exact h6
  have := (h3.2 i _ _ (List.getElem?_eq_getElem h6) (List.getElem?_eq_getElem h7)).1
  simpa using this
set_option maxHeartbeats 4000000 in
set_option maxRecDepth 100000 in
theorem bsf_any {A : Option Addr} {n c : Nat} {ns : List ByteArray} {t : ByteArray} {u : Value} {w : World} (h : NamL w A n c ns) (hn : n ≤ 1073741824)
    (hm : ∀ i j, i ≤ j → j < n → bcmp (nat_ ns j) t < 0 → bcmp (nat_ ns i) t < 0) :
    Calls Tryz.prog 149 #[.slice A n c, .agg #[.string t, u], .func (.func 123) #[] #[]] w (fun e w' => ∃ i : Nat, e = .returned (.tuple #[.int .i64 (i : Int), .bool (decide (i < n) && decide (bcmp (nat_ ns i) t = 0))]) ∧
      Hid (i ≤ n ∧ (∀ k, k < i → bcmp (nat_ ns k) t < 0) ∧ ∀ k, i ≤ k → k < n → 0 ≤ bcmp (nat_ ns k) t) ∧ Below w.heap.size w w') := by
  have H := Lib.hid h
  have HM := Lib.hid hm
  clear h hm
  go_enter Tryz.func149, Tryz.ntmps149
  have HT0 : Hid (At (World.alloc w (.cells #[.string t, u] 57)) ⟨w.heap.size, 0, none⟩ (.string t)) := (At.boxc (i := 0) (v := .string t) (t := 57) (b := w.heap.size) w #[.string t, u] rfl (by simp))
  have HT1 : Hid (At (World.alloc w (.cells #[.string t, u] 57)) ⟨w.heap.size, 1, none⟩ u) := (At.boxc (i := 1) (v := u) (t := 57) (b := w.heap.size) w #[.string t, u] rfl (by simp))
  have HBB : Hid (Below w.heap.size w (World.alloc w (.cells #[.string t, u] 57))) := ((Below.refl _ _).alloc (Nat.le_refl _) (.cells #[.string t, u] 57))
  go_wp2
  go_loopw [9, 10] (fun av bv wr => ∃ (i j : Nat), Hid (Below (World.alloc w (.cells #[.string t, u] 57)).heap.size (World.alloc w (.cells #[.string t, u] 57)) wr ∧ (∀ k, k < i → bcmp (nat_ ns k) t < 0) ∧ ∀ k, j ≤ k → k < n → 0 ≤ bcmp (nat_ ns k) t) ∧ i ≤ j ∧ j ≤ n ∧ av = .int .i64 (i : Int) ∧ bv = .int .i64 (j : Int)) (fun av bv _ => (intOf bv).toNat - (intOf av).toNat)
  case atStart => exact ⟨0, n, ⟨Below.refl _ _, fun k hk => absurd hk (Nat.not_lt_zero k), fun k h1 h2 => by omega⟩, Nat.zero_le _, Nat.le_refl _, rfl, rfl⟩
  case round =>
    obtain ⟨i, j, hI, hij, hj, rfl, rfl⟩ := hrel
    rcases Nat.lt_or_ge i j with hlt | hge
    · have i1 : (i : Int) < (j : Int) := by omega
      obtain ⟨m, em, hm1, hm2⟩ : ∃ m : Nat, ((i : Int) + (j : Int)) / 2 = (m : Int) ∧ i ≤ m ∧ m < j := ⟨(i + j) / 2, by omega, by omega, by omega⟩
      obtain ⟨b, off, v, e, g0, g1⟩ := ((H.out.below HBB.out).below hI.out.1).at (i := m) (by omega)
      subst e
      have i2 : (0 : Int) ≤ (m : Int) := by omega
      have i3 : (m : Int) < (n : Int) := by omega
      by_cases hc : bcmp (nat_ ns m) t < 0
      · have d1 : decide (bcmp (nat_ ns m) t < 0) = true := decide_eq_true hc
        go_wp2_with fail
        go_wp2_with fail
        have e_f0 := (HT0.out.below hI.out.1).1
        have g_f0 := At.grow (HT0.out.below hI.out.1)
        have e_f1 := (HT1.out.below hI.out.1).1
        have g_f1 := At.grow (HT1.out.below hI.out.1)
        have e_g0 := g0.1
        have g_g0 := At.grow g0
        have e_g1 := g1.1
        have g_g1 := At.grow g1
        refine wp_region_grow none [(true, 0), (true, 1), (true, 2), (true, 3), (true, 4), (true, 5), (false, 6), (true, 7)] (by kernel_rfl) (by kernel_rfl) ?_
        repeat (refine ord_pas (by rfl) (fun K hK => ?_); go_simp; refine hK _ _ (fun w' hw' => (by first | (go_simp; done) | (go_simp; intro hh; cases hh))) ?_; clear hK K)
        (refine ord_call (by rfl) (fun K hK => ?_); go_simp; refine hK _ _ ?_; clear hK K)
        refine (byName_any (nat_ ns m) t v u _).mono ?_
        rintro e w1 ⟨rfl, hb1⟩
        refine ⟨_, rfl, Grow.of_below hb1, ?_⟩
        (refine ord_norm (fun K hK => ?_); go_simp; refine hK _ ?_; clear hK K)
        repeat (refine ord_pas (by rfl) (fun K hK => ?_); go_simp; refine hK _ _ (fun w' hw' => (by first | (go_simp; done) | (go_simp; intro hh; cases hh))) ?_; clear hK K)
        refine ord_nil ?_
        have HN : Hid (Below (World.alloc w (.cells #[.string t, u] 57)).heap.size (World.alloc w (.cells #[.string t, u] 57)) w1 ∧ (∀ k, k < m + 1 → bcmp (nat_ ns k) t < 0) ∧ ∀ k, j ≤ k → k < n → 0 ≤ bcmp (nat_ ns k) t) := ⟨bt hI.out.1 (bt (Below.refl _ _).drew hb1), fun k hk => HM.out k m (by omega) (by omega) hc, hI.out.2.2⟩
        go_wp2
        go_roundw
        case rel => exact ⟨m + 1, j, HN, by omega, by omega, by go_num, rfl⟩
        case measure => simp [intOf]; omega
      · have d1 : decide (bcmp (nat_ ns m) t < 0) = false := decide_eq_false hc
        go_wp2_with fail
        go_wp2_with fail
        have e_f0 := (HT0.out.below hI.out.1).1
        have g_f0 := At.grow (HT0.out.below hI.out.1)
        have e_f1 := (HT1.out.below hI.out.1).1
        have g_f1 := At.grow (HT1.out.below hI.out.1)
        have e_g0 := g0.1
        have g_g0 := At.grow g0
        have e_g1 := g1.1
        have g_g1 := At.grow g1
        refine wp_region_grow none [(true, 0), (true, 1), (true, 2), (true, 3), (true, 4), (true, 5), (false, 6), (true, 7)] (by kernel_rfl) (by kernel_rfl) ?_
        repeat (refine ord_pas (by rfl) (fun K hK => ?_); go_simp; refine hK _ _ (fun w' hw' => (by first | (go_simp; done) | (go_simp; intro hh; cases hh))) ?_; clear hK K)
        (refine ord_call (by rfl) (fun K hK => ?_); go_simp; refine hK _ _ ?_; clear hK K)
        refine (byName_any (nat_ ns m) t v u _).mono ?_
        rintro e w2 ⟨rfl, hb2⟩
        refine ⟨_, rfl, Grow.of_below hb2, ?_⟩
        (refine ord_norm (fun K hK => ?_); go_simp; refine hK _ ?_; clear hK K)
        repeat (refine ord_pas (by rfl) (fun K hK => ?_); go_simp; refine hK _ _ (fun w' hw' => (by first | (go_simp; done) | (go_simp; intro hh; cases hh))) ?_; clear hK K)
        refine ord_nil ?_
        have HN : Hid (Below (World.alloc w (.cells #[.string t, u] 57)).heap.size (World.alloc w (.cells #[.string t, u] 57)) w2 ∧ (∀ k, k < i → bcmp (nat_ ns k) t < 0) ∧ ∀ k, m ≤ k → k < n → 0 ≤ bcmp (nat_ ns k) t) := ⟨bt hI.out.1 (bt (Below.refl _ _).drew hb2), hI.out.2.1, fun k h1 h2 => Int.not_lt.1 fun h3 => by have := HM.out m k h1 h2 h3; omega⟩
        go_wp2
        go_roundw
        case rel => exact ⟨i, m, HN, by omega, by omega, rfl, rfl⟩
        case measure => simp [intOf]; omega
    · obtain rfl : i = j := by omega
      have HR : Hid (i ≤ n ∧ (∀ k, k < i → bcmp (nat_ ns k) t < 0) ∧ ∀ k, i ≤ k → k < n → 0 ≤ bcmp (nat_ ns k) t) := ⟨hj, hI.out.2.1, hI.out.2.2⟩
      have HBI := Lib.hid hI.out.1
      have HB0 := Lib.hid (bt HBB.out hI.out.1)
      rcases Nat.lt_or_ge i n with hin | hin
      · obtain ⟨b, off, v, e, g0, g1⟩ := ((H.out.below HBB.out).below hI.out.1).at (i := i) (by omega)
        subst e
        have i2 : (0 : Int) ≤ (i : Int) := by omega
        have i3 : (i : Int) < (n : Int) := by omega
        clear hI
        go_wp2_with fail
        go_wp2_with fail
        have e_f0 := (HT0.out.below HBI.out).1
        have g_f0 := At.grow (HT0.out.below HBI.out)
        have e_f1 := (HT1.out.below HBI.out).1
        have g_f1 := At.grow (HT1.out.below HBI.out)
        have e_g0 := g0.1
        have g_g0 := At.grow g0
        have e_g1 := g1.1
        have g_g1 := At.grow g1
        refine wp_region_grow none [(true, 0), (true, 1), (true, 2), (true, 3), (true, 4), (true, 5), (true, 6), (true, 7), (true, 8), (true, 9), (true, 10), (false, 11), (true, 12), (true, 13), (true, 14), (true, 15)] (by kernel_rfl) (by kernel_rfl) ?_
        repeat (refine ord_pas (by rfl) (fun K hK => ?_); go_simp; refine hK _ _ (fun w' hw' => (by first | (go_simp; done) | (go_simp; intro hh; cases hh))) ?_; clear hK K)
        (refine ord_call (by rfl) (fun K hK => ?_); go_simp; refine hK _ _ ?_; clear hK K)
        refine (byName_any (nat_ ns i) t v u _).mono ?_
        rintro e w1 ⟨rfl, hb1⟩
        refine ⟨_, rfl, Grow.of_below hb1, ?_⟩
        (refine ord_norm (fun K hK => ?_); go_simp; refine hK _ ?_; clear hK K)
        repeat (refine ord_pas (by rfl) (fun K hK => ?_); go_simp; refine hK _ _ (fun w' hw' => (by first | (go_simp; done) | (go_simp; intro hh; cases hh))) ?_; clear hK K)
        refine ord_nil ?_
        have HB := Lib.hid (bt HB0.out (bt (Below.refl _ _).drew hb1))
        have hd : decide (i < n) = true := decide_eq_true hin
        generalize hz : bcmp (nat_ ns i) t = z
        go_wp2
        go_ret2
        exact ⟨i, by rw [hd, hz]; rfl, HR.out, HB.out⟩
      · have hd : decide (i < n) = false := decide_eq_false (by omega)
        have d1 : ((i : Int) < (n : Int)) = False := by simp; omega
        clear hI
        go_wp2_with fail
        refine wp_region_grow none [(true, 0), (true, 1), (true, 2), (true, 3), (true, 4), (true, 5), (true, 6), (true, 7), (true, 8), (true, 9), (true, 10), (true, 11), (true, 12), (true, 13), (true, 14), (true, 15)] (by kernel_rfl) (by kernel_rfl) ?_
        repeat (refine ord_pas (by rfl) (fun K hK => ?_); go_simp; refine hK _ _ (fun w' hw' => (by first | (go_simp; done) | (go_simp; intro hh; cases hh))) ?_; clear hK K)
        refine ord_nil ?_
        go_wp2
        go_ret2
        exact ⟨i, by rw [hd]; rfl, HR.out, HB0.out.drew⟩
set_option maxHeartbeats 1000000 in
theorem find_any {A : Option Addr} {n c : Nat} {ns : List ByteArray} {t : ByteArray} {w : World} (h : NamL w A n c ns) (hn : n ≤ 1073741824)
    (hm : ∀ i j, i ≤ j → j < n → bcmp (nat_ ns j) t < 0 → bcmp (nat_ ns i) t < 0) :
    Calls Tryz.prog 119 #[.slice A n c, .string t] w (fun e w' => ∃ i : Nat, e = .returned (.tuple #[.int .i64 (i : Int), .bool (decide (i < n) && decide (bcmp (nat_ ns i) t = 0))]) ∧
      Hid (i ≤ n ∧ (∀ k, k < i → bcmp (nat_ ns k) t < 0) ∧ ∀ k, i ≤ k → k < n → 0 ≤ bcmp (nat_ ns k) t) ∧ Below w.heap.size w w') := by
  have C := Lib.hid (bsf_any (u := .slice none 0 0) h hn hm)
  clear h hm
  go_enter Tryz.func119, Tryz.ntmps119
  go_wp2_with fail
  refine C.out.mono ?_
  rintro e w1 ⟨i, rfl, hi, hb⟩
  have HB := Lib.hid hb
  generalize hz : (decide (i < n) && decide (bcmp (nat_ ns i) t = 0)) = z
  go_wp2
  go_ret2
  exact ⟨i, by rw [hz]; rfl, hi, HB.out⟩
end Go.Proofs.YtamfhmmcnlollaaGreat
namespace Go.Proofs.YtamfhmmcnlollaaGreat
open Go.RowKit
set_option linter.unusedVariables false
set_option linter.unusedSimpArgs false

theorem rname_k (s : ByteArray) (w : World) (hs : s.size ≤ maxLen) : Calls Tryz.prog 63 #[.string s] w (Keeps (.int .i64 (nm s)) w) := (rname_any s w hs).mono fun e w' ⟨h1, h2⟩ => ⟨h1, h2 ▸ Below.refl _ _⟩
theorem rightc_zero {r : Bn} (h : rightc r = 0) : nm r.1 = 0 ∧ fitc r.2 = 0 := by
  unfold rightc at h
  split at h
  · rename_i h0; exact ⟨h0, h⟩
  · rename_i h0; exact absurd h h0
theorem rightc_bad {r : Bn} (h : ¬ rightc r = 0) : nm r.1 ≠ 0 ∨ (nm r.1 = 0 ∧ fitc r.2 ≠ 0) := by
  unfold rightc at h
  split at h
  · rename_i h0; exact .inr ⟨h0, h⟩
  · rename_i h0; exact .inl h0
set_option maxHeartbeats 16000000 in
set_option maxRecDepth 100000 in
theorem rgood_any {A : Option Addr} {n c L : Nat} {bs : List Bn} {w : World} (h : ListI L w (.slice A n c) bs) (hL1 : 1 ≤ L) (hL : L ≤ 268435456) (hn : n ≤ 1073741824) :
    Calls Tryz.prog 70 #[.slice A n c] w (Keeps (.bool (goodl bs)) w) := by
  have H := Lib.hid h
  have HNQ : Hid (n = bs.length) := h.len.1
  clear h
  go_enter Tryz.func70, Tryz.ntmps70
  go_wp2
  go_loopw [7] (fun kv wr => ∃ (i : Nat), Hid (Below w.heap.size w wr ∧ ∀ j, j < i → okAt bs j = true) ∧ i ≤ n ∧ kv = .int .i64 (i : Int)) (fun kv _ => n - (intOf kv).toNat)
  case atStart => exact ⟨0, ⟨Below.refl _ _, fun j hj => absurd hj (Nat.not_lt_zero j)⟩, Nat.zero_le _, rfl⟩
  case round =>
    obtain ⟨i, hI, hi, rfl⟩ := hrel
    by_cases hlt : i < n
    · obtain ⟨b, off, A1, n1, c1, r, e, hb, eq, h0, h1, h3, h4, h5⟩ := (H.out.below hI.out.1).at (i := i) (by have := HNQ.out; omega)
      have HQ := Lib.hid eq
      have HP := Lib.hid h3
      have HS := Lib.hid h4
      clear eq h3 h4
      subst e
      have i1 : (0 : Int) ≤ (i : Int) := by omega
      have i2 : (i : Int) < (n : Int) := by omega
      have x0 := h0.1
      have x1 := h1.1
      have CN := Lib.hid (rname_k r.1 (World.drew (World.alloc wr (.cells #[.string r.1, .slice A1 n1 c1] 95))) HS.out)
      by_cases hz : rightc r = 0
      · rw [(rightc_zero hz).1] at CN
        have CF := Lib.hid fun w' (hb : Below (World.drew (World.alloc wr (.cells #[.string r.1, .slice A1 n1 c1] 95))).heap.size (World.drew (World.alloc wr (.cells #[.string r.1, .slice A1 n1 c1] 95))) w') => rfits_any ((HP.out.below (belowA _ _).drew).below hb) hL1 hL h5
        rw [(rightc_zero hz).2] at CF
        cases i with
        | zero =>
          simp only [Nat.zero_mul, Nat.add_zero] at x0 x1
          have HN : ∀ j, j < 0 + 1 → okAt bs j = true := fun j hj => by
            obtain rfl : j = 0 := by omega
            rw [okAt_zero, bnat_of HQ.out, decide_eq_true hz]
          have HN := Lib.hid HN
          go_wp2_with fail
          have e_f0 := (At.boxc (i := 0) (v := .string r.1) (t := 95) (b := wr.heap.size) wr #[.string r.1, .slice A1 n1 c1] rfl (by simp)).1
          have g_f0 := At.grow (At.boxc (i := 0) (v := .string r.1) (t := 95) (b := wr.heap.size) wr #[.string r.1, .slice A1 n1 c1] rfl (by simp))
          have e_f1 := (At.boxc (i := 1) (v := .slice A1 n1 c1) (t := 95) (b := wr.heap.size) wr #[.string r.1, .slice A1 n1 c1] rfl (by simp)).1
          have g_f1 := At.grow (At.boxc (i := 1) (v := .slice A1 n1 c1) (t := 95) (b := wr.heap.size) wr #[.string r.1, .slice A1 n1 c1] rfl (by simp))
          refine wp_region_grow none [(true, 0), (true, 1), (false, 2), (true, 3), (true, 4), (true, 5), (true, 6), (false, 7), (true, 8), (true, 9), (true, 10), (true, 11), (true, 12), (true, 13), (true, 14), (true, 15), (true, 16), (true, 17), (true, 18), (true, 19), (true, 20), (true, 21), (true, 22), (true, 23), (true, 24)] (by kernel_rfl) (by kernel_rfl) ?_
          repeat (refine ord_pas (by rfl) (fun K hK => ?_); go_simp; refine hK _ _ (fun w' hw' => (by first | (go_simp; done) | (go_simp; intro hh; cases hh))) ?_; clear hK K)
          (refine ord_call (by rfl) (fun K hK => ?_); go_simp; refine hK _ _ ?_; clear hK K)
          refine (CN.out).mono ?_
          rintro e w1 ⟨rfl, hb1⟩
          refine ⟨_, rfl, Grow.of_below hb1, ?_⟩
          (refine ord_norm (fun K hK => ?_); go_simp; refine hK _ ?_; clear hK K)
          have em_f0 := (((At.boxc (i := 0) (v := .string r.1) (t := 95) (b := wr.heap.size) wr #[.string r.1, .slice A1 n1 c1] rfl (by simp)).below (Below.refl _ _).drew).below hb1).1
          have gm_f0 := At.grow0 (((At.boxc (i := 0) (v := .string r.1) (t := 95) (b := wr.heap.size) wr #[.string r.1, .slice A1 n1 c1] rfl (by simp)).below (Below.refl _ _).drew).below hb1)
          have em_f1 := (((At.boxc (i := 1) (v := .slice A1 n1 c1) (t := 95) (b := wr.heap.size) wr #[.string r.1, .slice A1 n1 c1] rfl (by simp)).below (Below.refl _ _).drew).below hb1).1
          have gm_f1 := At.grow0 (((At.boxc (i := 1) (v := .slice A1 n1 c1) (t := 95) (b := wr.heap.size) wr #[.string r.1, .slice A1 n1 c1] rfl (by simp)).below (Below.refl _ _).drew).below hb1)
          repeat (refine ord_pas (by rfl) (fun K hK => ?_); go_simp; refine hK _ _ (fun w' hw' => (by first | (go_simp; done) | (go_simp; intro hh; cases hh))) ?_; clear hK K)
          clear gm_f0 em_f0 gm_f1 em_f1
          (refine ord_call (by rfl) (fun K hK => ?_); go_simp; refine hK _ _ ?_; clear hK K)
          refine (CF.out _ hb1).mono ?_
          rintro e w2 ⟨rfl, hb2⟩
          refine ⟨_, rfl, Grow.of_below hb2, ?_⟩
          (refine ord_norm (fun K hK => ?_); go_simp; refine hK _ ?_; clear hK K)
          repeat (refine ord_pas (by rfl) (fun K hK => ?_); go_simp; refine hK _ _ (fun w' hw' => (by first | (go_simp; done) | (go_simp; intro hh; cases hh))) ?_; clear hK K)
          refine ord_nil ?_
          have HB := Lib.hid (bt hI.out.1 (bt (bt (bt ((Below.refl _ _).alloc (Nat.le_refl _) (.cells #[.string r.1, .slice A1 n1 c1] 95)) (Below.refl _ _).drew) hb1) hb2))
          go_wp2
          go_roundw
          case rel => exact ⟨0 + 1, ⟨HB.out, HN.out⟩, by omega, by go_num⟩
          case measure => simp [intOf]; omega
        | succ k =>
          obtain ⟨b', off', A3, n3, c3, r3, e3, hb3, eq3, g0, g1, _, _, _⟩ := (H.out.below hI.out.1).at (i := k) (by have := HNQ.out; omega)
          injection e3 with e3
          injection e3 with e3 e4 _
          subst e3 e4
          have HQ3 := Lib.hid eq3
          clear eq3
          have i3 : (0 : Int) < (k : Int) + 1 := by omega
          have i4 : (k : Int) < (n : Int) := by omega
          have i5 : (0 : Int) ≤ (k : Int) := by omega
          have i6 : IntKind.i64.wrap (k : Int) = (k : Int) := by rw [IntKind.wrap_i64]; omega
          by_cases hc : bcmp r3.1 r.1 < 0
          · have HN : ∀ j, j < k + 1 + 1 → okAt bs j = true := fun j hj => by
              rcases Nat.lt_or_ge j (k + 1) with hj2 | hj2
              · exact hI.out.2 j hj2
              · obtain rfl : j = k + 1 := by omega
                rw [okAt_succ, bnat_of HQ.out, bnat_of HQ3.out, decide_eq_true hz, decide_eq_true hc]; rfl
            have HN := Lib.hid HN
            have d3 : Op.bytesLess r3.1.toList r.1.toList = true := by rw [bcmp_lt, decide_eq_true hc]
            go_wp2_with fail
            have e_f0 := (At.boxc (i := 0) (v := .string r.1) (t := 95) (b := wr.heap.size) wr #[.string r.1, .slice A1 n1 c1] rfl (by simp)).1
            have g_f0 := At.grow (At.boxc (i := 0) (v := .string r.1) (t := 95) (b := wr.heap.size) wr #[.string r.1, .slice A1 n1 c1] rfl (by simp))
            have e_f1 := (At.boxc (i := 1) (v := .slice A1 n1 c1) (t := 95) (b := wr.heap.size) wr #[.string r.1, .slice A1 n1 c1] rfl (by simp)).1
            have g_f1 := At.grow (At.boxc (i := 1) (v := .slice A1 n1 c1) (t := 95) (b := wr.heap.size) wr #[.string r.1, .slice A1 n1 c1] rfl (by simp))
            have e_g0 := (g0.below (belowA wr (.cells #[.string r.1, .slice A1 n1 c1] 95))).1
            have g_g0 := At.grow (g0.below (belowA wr (.cells #[.string r.1, .slice A1 n1 c1] 95)))
            have e_g1 := (g1.below (belowA wr (.cells #[.string r.1, .slice A1 n1 c1] 95))).1
            have g_g1 := At.grow (g1.below (belowA wr (.cells #[.string r.1, .slice A1 n1 c1] 95)))
            refine wp_region_grow none [(true, 0), (true, 1), (false, 2), (true, 3), (true, 4), (true, 5), (true, 6), (false, 7), (true, 8), (true, 9), (true, 10), (true, 11), (true, 12), (true, 13), (true, 14), (true, 15), (true, 16), (true, 17), (true, 18), (true, 19), (true, 20), (true, 21), (true, 22), (true, 23), (true, 24)] (by kernel_rfl) (by kernel_rfl) ?_
            repeat (refine ord_pas (by rfl) (fun K hK => ?_); go_simp; refine hK _ _ (fun w' hw' => (by first | (go_simp; done) | (go_simp; intro hh; cases hh))) ?_; clear hK K)
            (refine ord_call (by rfl) (fun K hK => ?_); go_simp; refine hK _ _ ?_; clear hK K)
            refine (CN.out).mono ?_
            rintro e w3 ⟨rfl, hb3⟩
            refine ⟨_, rfl, Grow.of_below hb3, ?_⟩
            (refine ord_norm (fun K hK => ?_); go_simp; refine hK _ ?_; clear hK K)
            have em_f0 := (((At.boxc (i := 0) (v := .string r.1) (t := 95) (b := wr.heap.size) wr #[.string r.1, .slice A1 n1 c1] rfl (by simp)).below (Below.refl _ _).drew).below hb3).1
            have gm_f0 := At.grow0 (((At.boxc (i := 0) (v := .string r.1) (t := 95) (b := wr.heap.size) wr #[.string r.1, .slice A1 n1 c1] rfl (by simp)).below (Below.refl _ _).drew).below hb3)
            have em_f1 := (((At.boxc (i := 1) (v := .slice A1 n1 c1) (t := 95) (b := wr.heap.size) wr #[.string r.1, .slice A1 n1 c1] rfl (by simp)).below (Below.refl _ _).drew).below hb3).1
            have gm_f1 := At.grow0 (((At.boxc (i := 1) (v := .slice A1 n1 c1) (t := 95) (b := wr.heap.size) wr #[.string r.1, .slice A1 n1 c1] rfl (by simp)).below (Below.refl _ _).drew).below hb3)
            have em_g0 := (((g0.below (belowA wr (.cells #[.string r.1, .slice A1 n1 c1] 95))).below (Below.refl _ _).drew).below hb3).1
            have gm_g0 := At.grow0 (((g0.below (belowA wr (.cells #[.string r.1, .slice A1 n1 c1] 95))).below (Below.refl _ _).drew).below hb3)
            have em_g1 := (((g1.below (belowA wr (.cells #[.string r.1, .slice A1 n1 c1] 95))).below (Below.refl _ _).drew).below hb3).1
            have gm_g1 := At.grow0 (((g1.below (belowA wr (.cells #[.string r.1, .slice A1 n1 c1] 95))).below (Below.refl _ _).drew).below hb3)
            repeat (refine ord_pas (by rfl) (fun K hK => ?_); go_simp; refine hK _ _ (fun w' hw' => (by first | (go_simp; done) | (go_simp; intro hh; cases hh))) ?_; clear hK K)
            clear gm_f0 em_f0 gm_f1 em_f1 gm_g0 em_g0 gm_g1 em_g1
            (refine ord_call (by rfl) (fun K hK => ?_); go_simp; refine hK _ _ ?_; clear hK K)
            refine (CF.out _ hb3).mono ?_
            rintro e w4 ⟨rfl, hb4⟩
            refine ⟨_, rfl, Grow.of_below hb4, ?_⟩
            (refine ord_norm (fun K hK => ?_); go_simp; refine hK _ ?_; clear hK K)
            have em_f0 := ((((At.boxc (i := 0) (v := .string r.1) (t := 95) (b := wr.heap.size) wr #[.string r.1, .slice A1 n1 c1] rfl (by simp)).below (Below.refl _ _).drew).below hb3).below hb4).1
            have gm_f0 := At.grow0 ((((At.boxc (i := 0) (v := .string r.1) (t := 95) (b := wr.heap.size) wr #[.string r.1, .slice A1 n1 c1] rfl (by simp)).below (Below.refl _ _).drew).below hb3).below hb4)
            have em_f1 := ((((At.boxc (i := 1) (v := .slice A1 n1 c1) (t := 95) (b := wr.heap.size) wr #[.string r.1, .slice A1 n1 c1] rfl (by simp)).below (Below.refl _ _).drew).below hb3).below hb4).1
            have gm_f1 := At.grow0 ((((At.boxc (i := 1) (v := .slice A1 n1 c1) (t := 95) (b := wr.heap.size) wr #[.string r.1, .slice A1 n1 c1] rfl (by simp)).below (Below.refl _ _).drew).below hb3).below hb4)
            have em_g0 := ((((g0.below (belowA wr (.cells #[.string r.1, .slice A1 n1 c1] 95))).below (Below.refl _ _).drew).below hb3).below hb4).1
            have gm_g0 := At.grow0 ((((g0.below (belowA wr (.cells #[.string r.1, .slice A1 n1 c1] 95))).below (Below.refl _ _).drew).below hb3).below hb4)
            have em_g1 := ((((g1.below (belowA wr (.cells #[.string r.1, .slice A1 n1 c1] 95))).below (Below.refl _ _).drew).below hb3).below hb4).1
            have gm_g1 := At.grow0 ((((g1.below (belowA wr (.cells #[.string r.1, .slice A1 n1 c1] 95))).below (Below.refl _ _).drew).below hb3).below hb4)
            repeat (refine ord_pas (by rfl) (fun K hK => ?_); go_simp; refine hK _ _ (fun w' hw' => (by first | (go_simp; done) | (go_simp; intro hh; cases hh))) ?_; clear hK K)
            clear gm_f0 em_f0 gm_f1 em_f1 gm_g0 em_g0 gm_g1 em_g1
            refine ord_nil ?_
            have HB := Lib.hid (bt hI.out.1 (bt (bt (bt ((Below.refl _ _).alloc (Nat.le_refl _) (.cells #[.string r.1, .slice A1 n1 c1] 95)) (Below.refl _ _).drew) hb3) hb4))
            go_wp2
            go_roundw
            case rel => exact ⟨k + 1 + 1, ⟨HB.out, HN.out⟩, by omega, by go_num⟩
            case measure => simp [intOf]; omega
          · have HF : Hid (goodl bs = false) := goodl_bad (i := k + 1) (by have := HNQ.out; omega) (by rw [okAt_succ, bnat_of HQ.out, bnat_of HQ3.out, decide_eq_false hc, Bool.and_false])
            have d3 : Op.bytesLess r3.1.toList r.1.toList = false := by rw [bcmp_lt, decide_eq_false hc]
            go_wp2_with fail
            have e_f0 := (At.boxc (i := 0) (v := .string r.1) (t := 95) (b := wr.heap.size) wr #[.string r.1, .slice A1 n1 c1] rfl (by simp)).1
            have g_f0 := At.grow (At.boxc (i := 0) (v := .string r.1) (t := 95) (b := wr.heap.size) wr #[.string r.1, .slice A1 n1 c1] rfl (by simp))
            have e_f1 := (At.boxc (i := 1) (v := .slice A1 n1 c1) (t := 95) (b := wr.heap.size) wr #[.string r.1, .slice A1 n1 c1] rfl (by simp)).1
            have g_f1 := At.grow (At.boxc (i := 1) (v := .slice A1 n1 c1) (t := 95) (b := wr.heap.size) wr #[.string r.1, .slice A1 n1 c1] rfl (by simp))
            have e_g0 := (g0.below (belowA wr (.cells #[.string r.1, .slice A1 n1 c1] 95))).1
            have g_g0 := At.grow (g0.below (belowA wr (.cells #[.string r.1, .slice A1 n1 c1] 95)))
            have e_g1 := (g1.below (belowA wr (.cells #[.string r.1, .slice A1 n1 c1] 95))).1
            have g_g1 := At.grow (g1.below (belowA wr (.cells #[.string r.1, .slice A1 n1 c1] 95)))
            refine wp_region_grow none [(true, 0), (true, 1), (false, 2), (true, 3), (true, 4), (true, 5), (true, 6), (false, 7), (true, 8), (true, 9), (true, 10), (true, 11), (true, 12), (true, 13), (true, 14), (true, 15), (true, 16), (true, 17), (true, 18), (true, 19), (true, 20), (true, 21), (true, 22), (true, 23), (true, 24)] (by kernel_rfl) (by kernel_rfl) ?_
            repeat (refine ord_pas (by rfl) (fun K hK => ?_); go_simp; refine hK _ _ (fun w' hw' => (by first | (go_simp; done) | (go_simp; intro hh; cases hh))) ?_; clear hK K)
            (refine ord_call (by rfl) (fun K hK => ?_); go_simp; refine hK _ _ ?_; clear hK K)
            refine (CN.out).mono ?_
            rintro e w5 ⟨rfl, hb5⟩
            refine ⟨_, rfl, Grow.of_below hb5, ?_⟩
            (refine ord_norm (fun K hK => ?_); go_simp; refine hK _ ?_; clear hK K)
            have em_f0 := (((At.boxc (i := 0) (v := .string r.1) (t := 95) (b := wr.heap.size) wr #[.string r.1, .slice A1 n1 c1] rfl (by simp)).below (Below.refl _ _).drew).below hb5).1
            have gm_f0 := At.grow0 (((At.boxc (i := 0) (v := .string r.1) (t := 95) (b := wr.heap.size) wr #[.string r.1, .slice A1 n1 c1] rfl (by simp)).below (Below.refl _ _).drew).below hb5)
            have em_f1 := (((At.boxc (i := 1) (v := .slice A1 n1 c1) (t := 95) (b := wr.heap.size) wr #[.string r.1, .slice A1 n1 c1] rfl (by simp)).below (Below.refl _ _).drew).below hb5).1
            have gm_f1 := At.grow0 (((At.boxc (i := 1) (v := .slice A1 n1 c1) (t := 95) (b := wr.heap.size) wr #[.string r.1, .slice A1 n1 c1] rfl (by simp)).below (Below.refl _ _).drew).below hb5)
            have em_g0 := (((g0.below (belowA wr (.cells #[.string r.1, .slice A1 n1 c1] 95))).below (Below.refl _ _).drew).below hb5).1
            have gm_g0 := At.grow0 (((g0.below (belowA wr (.cells #[.string r.1, .slice A1 n1 c1] 95))).below (Below.refl _ _).drew).below hb5)
            have em_g1 := (((g1.below (belowA wr (.cells #[.string r.1, .slice A1 n1 c1] 95))).below (Below.refl _ _).drew).below hb5).1
            have gm_g1 := At.grow0 (((g1.below (belowA wr (.cells #[.string r.1, .slice A1 n1 c1] 95))).below (Below.refl _ _).drew).below hb5)
            repeat (refine ord_pas (by rfl) (fun K hK => ?_); go_simp; refine hK _ _ (fun w' hw' => (by first | (go_simp; done) | (go_simp; intro hh; cases hh))) ?_; clear hK K)
            clear gm_f0 em_f0 gm_f1 em_f1 gm_g0 em_g0 gm_g1 em_g1
            (refine ord_call (by rfl) (fun K hK => ?_); go_simp; refine hK _ _ ?_; clear hK K)
            refine (CF.out _ hb5).mono ?_
            rintro e w6 ⟨rfl, hb6⟩
            refine ⟨_, rfl, Grow.of_below hb6, ?_⟩
            (refine ord_norm (fun K hK => ?_); go_simp; refine hK _ ?_; clear hK K)
            have em_f0 := ((((At.boxc (i := 0) (v := .string r.1) (t := 95) (b := wr.heap.size) wr #[.string r.1, .slice A1 n1 c1] rfl (by simp)).below (Below.refl _ _).drew).below hb5).below hb6).1
            have gm_f0 := At.grow0 ((((At.boxc (i := 0) (v := .string r.1) (t := 95) (b := wr.heap.size) wr #[.string r.1, .slice A1 n1 c1] rfl (by simp)).below (Below.refl _ _).drew).below hb5).below hb6)
            have em_f1 := ((((At.boxc (i := 1) (v := .slice A1 n1 c1) (t := 95) (b := wr.heap.size) wr #[.string r.1, .slice A1 n1 c1] rfl (by simp)).below (Below.refl _ _).drew).below hb5).below hb6).1
            have gm_f1 := At.grow0 ((((At.boxc (i := 1) (v := .slice A1 n1 c1) (t := 95) (b := wr.heap.size) wr #[.string r.1, .slice A1 n1 c1] rfl (by simp)).below (Below.refl _ _).drew).below hb5).below hb6)
            have em_g0 := ((((g0.below (belowA wr (.cells #[.string r.1, .slice A1 n1 c1] 95))).below (Below.refl _ _).drew).below hb5).below hb6).1
            have gm_g0 := At.grow0 ((((g0.below (belowA wr (.cells #[.string r.1, .slice A1 n1 c1] 95))).below (Below.refl _ _).drew).below hb5).below hb6)
            have em_g1 := ((((g1.below (belowA wr (.cells #[.string r.1, .slice A1 n1 c1] 95))).below (Below.refl _ _).drew).below hb5).below hb6).1
            have gm_g1 := At.grow0 ((((g1.below (belowA wr (.cells #[.string r.1, .slice A1 n1 c1] 95))).below (Below.refl _ _).drew).below hb5).below hb6)
            repeat (refine ord_pas (by rfl) (fun K hK => ?_); go_simp; refine hK _ _ (fun w' hw' => (by first | (go_simp; done) | (go_simp; intro hh; cases hh))) ?_; clear hK K)
            clear gm_f0 em_f0 gm_f1 em_f1 gm_g0 em_g0 gm_g1 em_g1
            refine ord_nil ?_
            have HB := Lib.hid (bt hI.out.1 (bt (bt (bt ((Below.refl _ _).alloc (Nat.le_refl _) (.cells #[.string r.1, .slice A1 n1 c1] 95)) (Below.refl _ _).drew) hb5) hb6))
            go_wp2
            go_ret
            exact ⟨by rw [HF.out]; rfl, HB.out⟩
      · have HF : Hid (goodl bs = false) := goodl_bad (i := i) (by have := HNQ.out; omega) (by
          cases i with
          | zero => rw [okAt_zero, bnat_of HQ.out, decide_eq_false hz]
          | succ k => rw [okAt_succ, bnat_of HQ.out, decide_eq_false hz]; rfl)
        rcases rightc_bad hz with hx | ⟨hx0, hx⟩
        · have d1 : (nm r.1 == 0) = false := by rw [beq_eq_false_iff_ne]; exact hx
          have d2 : (nm r.1 != 0) = true := by simp [bne, d1]
          generalize nm r.1 = z at CN d1 d2
          go_wp2_with fail
          have e_f0 := (At.boxc (i := 0) (v := .string r.1) (t := 95) (b := wr.heap.size) wr #[.string r.1, .slice A1 n1 c1] rfl (by simp)).1
          have g_f0 := At.grow (At.boxc (i := 0) (v := .string r.1) (t := 95) (b := wr.heap.size) wr #[.string r.1, .slice A1 n1 c1] rfl (by simp))
          have e_f1 := (At.boxc (i := 1) (v := .slice A1 n1 c1) (t := 95) (b := wr.heap.size) wr #[.string r.1, .slice A1 n1 c1] rfl (by simp)).1
          have g_f1 := At.grow (At.boxc (i := 1) (v := .slice A1 n1 c1) (t := 95) (b := wr.heap.size) wr #[.string r.1, .slice A1 n1 c1] rfl (by simp))
          refine wp_region_grow none [(true, 0), (true, 1), (false, 2), (true, 3), (true, 4), (true, 5), (true, 6), (true, 7), (true, 8), (true, 9), (true, 10), (true, 11), (true, 12), (true, 13), (true, 14), (true, 15), (true, 16), (true, 17), (true, 18), (true, 19), (true, 20), (true, 21), (true, 22), (true, 23), (true, 24)] (by kernel_rfl) (by kernel_rfl) ?_
          repeat (refine ord_pas (by rfl) (fun K hK => ?_); go_simp; refine hK _ _ (fun w' hw' => (by first | (go_simp; done) | (go_simp; intro hh; cases hh))) ?_; clear hK K)
          (refine ord_call (by rfl) (fun K hK => ?_); go_simp; refine hK _ _ ?_; clear hK K)
          refine (CN.out).mono ?_
          rintro e w7 ⟨rfl, hb7⟩
          refine ⟨_, rfl, Grow.of_below hb7, ?_⟩
          (refine ord_norm (fun K hK => ?_); go_simp; refine hK _ ?_; clear hK K)
          repeat (refine ord_pas (by rfl) (fun K hK => ?_); go_simp; refine hK _ _ (fun w' hw' => (by first | (go_simp; done) | (go_simp; intro hh; cases hh))) ?_; clear hK K)
          refine ord_nil ?_
          have HB := Lib.hid (bt hI.out.1 (bt (bt ((Below.refl _ _).alloc (Nat.le_refl _) (.cells #[.string r.1, .slice A1 n1 c1] 95)) (Below.refl _ _).drew) hb7))
          go_wp2
          go_ret
          exact ⟨by rw [HF.out]; rfl, HB.out⟩
        · rw [hx0] at CN
          have CF := Lib.hid fun w' (hb : Below (World.drew (World.alloc wr (.cells #[.string r.1, .slice A1 n1 c1] 95))).heap.size (World.drew (World.alloc wr (.cells #[.string r.1, .slice A1 n1 c1] 95))) w') => rfits_any ((HP.out.below (belowA _ _).drew).below hb) hL1 hL h5
          have d1 : (fitc r.2 == 0) = false := by rw [beq_eq_false_iff_ne]; exact hx
          have d2 : (fitc r.2 != 0) = true := by simp [bne, d1]
          generalize fitc r.2 = z at CF d1 d2
          go_wp2_with fail
          have e_f0 := (At.boxc (i := 0) (v := .string r.1) (t := 95) (b := wr.heap.size) wr #[.string r.1, .slice A1 n1 c1] rfl (by simp)).1
          have g_f0 := At.grow (At.boxc (i := 0) (v := .string r.1) (t := 95) (b := wr.heap.size) wr #[.string r.1, .slice A1 n1 c1] rfl (by simp))
          have e_f1 := (At.boxc (i := 1) (v := .slice A1 n1 c1) (t := 95) (b := wr.heap.size) wr #[.string r.1, .slice A1 n1 c1] rfl (by simp)).1
          have g_f1 := At.grow (At.boxc (i := 1) (v := .slice A1 n1 c1) (t := 95) (b := wr.heap.size) wr #[.string r.1, .slice A1 n1 c1] rfl (by simp))
          refine wp_region_grow none [(true, 0), (true, 1), (false, 2), (true, 3), (true, 4), (true, 5), (true, 6), (false, 7), (true, 8), (true, 9), (true, 10), (true, 11), (true, 12), (true, 13), (true, 14), (true, 15), (true, 16), (true, 17), (true, 18), (true, 19), (true, 20), (true, 21), (true, 22), (true, 23), (true, 24)] (by kernel_rfl) (by kernel_rfl) ?_
          repeat (refine ord_pas (by rfl) (fun K hK => ?_); go_simp; refine hK _ _ (fun w' hw' => (by first | (go_simp; done) | (go_simp; intro hh; cases hh))) ?_; clear hK K)
          (refine ord_call (by rfl) (fun K hK => ?_); go_simp; refine hK _ _ ?_; clear hK K)
          refine (CN.out).mono ?_
          rintro e w8 ⟨rfl, hb8⟩
          refine ⟨_, rfl, Grow.of_below hb8, ?_⟩
          (refine ord_norm (fun K hK => ?_); go_simp; refine hK _ ?_; clear hK K)
          have em_f0 := (((At.boxc (i := 0) (v := .string r.1) (t := 95) (b := wr.heap.size) wr #[.string r.1, .slice A1 n1 c1] rfl (by simp)).below (Below.refl _ _).drew).below hb8).1
          have gm_f0 := At.grow0 (((At.boxc (i := 0) (v := .string r.1) (t := 95) (b := wr.heap.size) wr #[.string r.1, .slice A1 n1 c1] rfl (by simp)).below (Below.refl _ _).drew).below hb8)
          have em_f1 := (((At.boxc (i := 1) (v := .slice A1 n1 c1) (t := 95) (b := wr.heap.size) wr #[.string r.1, .slice A1 n1 c1] rfl (by simp)).below (Below.refl _ _).drew).below hb8).1
          have gm_f1 := At.grow0 (((At.boxc (i := 1) (v := .slice A1 n1 c1) (t := 95) (b := wr.heap.size) wr #[.string r.1, .slice A1 n1 c1] rfl (by simp)).below (Below.refl _ _).drew).below hb8)
          repeat (refine ord_pas (by rfl) (fun K hK => ?_); go_simp; refine hK _ _ (fun w' hw' => (by first | (go_simp; done) | (go_simp; intro hh; cases hh))) ?_; clear hK K)
          clear gm_f0 em_f0 gm_f1 em_f1
          (refine ord_call (by rfl) (fun K hK => ?_); go_simp; refine hK _ _ ?_; clear hK K)
          refine (CF.out _ hb8).mono ?_
          rintro e w9 ⟨rfl, hb9⟩
          refine ⟨_, rfl, Grow.of_below hb9, ?_⟩
          (refine ord_norm (fun K hK => ?_); go_simp; refine hK _ ?_; clear hK K)
          repeat (refine ord_pas (by rfl) (fun K hK => ?_); go_simp; refine hK _ _ (fun w' hw' => (by first | (go_simp; done) | (go_simp; intro hh; cases hh))) ?_; clear hK K)
          refine ord_nil ?_
          have HB := Lib.hid (bt hI.out.1 (bt (bt (bt ((Below.refl _ _).alloc (Nat.le_refl _) (.cells #[.string r.1, .slice A1 n1 c1] 95)) (Below.refl _ _).drew) hb8) hb9))
          go_wp2
          go_ret
          exact ⟨by rw [HF.out]; rfl, HB.out⟩
    · obtain rfl : i = n := by omega
      have HT : Hid (goodl bs = decide (i ≤ 64)) := by
        show _ = _
        rw [goodl_all (fun j hj => hI.out.2 j (by have := HNQ.out; omega)), ← HNQ.out]
      have HE : (decide ((i : Int) ≤ 64)) = decide (i ≤ 64) := by
        by_cases h : i ≤ 64
        · rw [decide_eq_true (by omega), decide_eq_true h]
        · rw [decide_eq_false (by omega), decide_eq_false h]
      have HB := Lib.hid hI.out.1
      generalize decide (i ≤ 64) = z at HT HE
      go_wp2
      go_ret
      exact ⟨by rw [HT.out]; simp [HE], HB.out⟩
end Go.Proofs.YtamfhmmcnlollaaGreat
